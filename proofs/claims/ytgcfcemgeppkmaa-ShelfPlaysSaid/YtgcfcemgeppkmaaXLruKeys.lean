/-
  PLAIN: an order of numbers as two links: who is next, who was before. lru in memory: seats in a row, a map from keys to seats, an order in two links. lru.Use, lru.Keys, lru.Clear, lru.New. lru.Use: the seat that was used least is taken. lru.Clear, lru.New, lru.Keys. lru.Use, whatever the key is.
-/
import Derived.Below
import Derived.Test.YtgcfcemgeppkmaaXMay
import Derived.Test.YtgcfcemgeppkmaaXSort
import Derived.Maps.OwnSet
import Derived.DeepKeys4
import Derived.Deep.QuietTactic
import Derived.BigQuiet
import Derived.Deep.DeepCutAuto
import Derived.Deep.LoopGhost
import Derived.Deep.CutBlock
import Derived.Deep.RegionHeld3
import Derived.Outline
import Derived.Deep.RegionLaw
namespace Go.Proofs.Ytgcfcemgeppkmaa.Ord
def headI : List Nat → Int
  | [] => -1
  | x :: _ => (x : Int)
def lastI : List Nat → Int
  | [] => -1
  | [x] => (x : Int)
  | _ :: y :: r => lastI (y :: r)
def nextOf : List Nat → Nat → Int
  | [], _ => -1
  | y :: r, x => if y = x then headI r else nextOf r x
theorem nextOf_cons (y : Nat) (r : List Nat) (x : Nat) : nextOf (y :: r) x = if y = x then headI r else nextOf r x := rfl
theorem lastI_cons2 (y z : Nat) (r : List Nat) : lastI (y :: z :: r) = lastI (z :: r) := rfl
theorem nodup_rev {l : List Nat} (h : l.Nodup) : l.reverse.Nodup := List.pairwise_reverse.2 (h.imp Ne.symm)
def prevOf (l : List Nat) (x : Nat) : Int := nextOf l.reverse x
theorem lastI_snoc (l : List Nat) (x : Nat) : lastI (l ++ [x]) = (x : Int) := by
  induction l with
  | nil => rfl
  | cons y r ih =>
    cases r with
    | nil => rfl
    | cons z r => exact ih
theorem headI_reverse (l : List Nat) : headI l.reverse = lastI l := by
  induction l with
  | nil => rfl
  | cons y r ih =>
    cases r with
    | nil => rfl
    | cons z r =>
      rw [List.reverse_cons]
      have h : (z :: r).reverse ≠ [] := by simp
      obtain ⟨a, t, e⟩ : ∃ a t, (z :: r).reverse = a :: t := by
        cases hq : (z :: r).reverse with
        | nil => exact absurd hq h
        | cons a t => exact ⟨a, t, rfl⟩
      rw [e] at ih ⊢
      exact ih
theorem lastI_reverse (l : List Nat) : lastI l.reverse = headI l := by
  have := headI_reverse l.reverse
  rw [List.reverse_reverse] at this
  exact this.symm
theorem headI_mem {l : List Nat} {x : Nat} (h : headI l = (x : Int)) : x ∈ l := by
  cases l with
  | nil => exact absurd h (by simp only [headI]; omega)
  | cons y r =>
    have : (y : Int) = x := h
    have : y = x := by omega
    simp [this]
theorem lastI_mem {l : List Nat} {x : Nat} (h : lastI l = (x : Int)) : x ∈ l := by
  rw [← headI_reverse] at h
  simpa using headI_mem h
theorem headI_cases (l : List Nat) : (headI l = -1 ∧ l = []) ∨ ∃ x, x ∈ l ∧ headI l = (x : Int) := by
  cases l with
  | nil => exact .inl ⟨rfl, rfl⟩
  | cons y r => exact .inr ⟨y, by simp, rfl⟩
theorem lastI_cases (l : List Nat) : (lastI l = -1 ∧ l = []) ∨ ∃ x, x ∈ l ∧ lastI l = (x : Int) := by
  rcases headI_cases l.reverse with ⟨h, e⟩ | ⟨x, hx, h⟩
  · exact .inl ⟨by rw [← headI_reverse]; exact h, by simpa using e⟩
  · exact .inr ⟨x, by simpa using hx, by rw [← headI_reverse]; exact h⟩
theorem nextOf_at {pre : List Nat} {s : Nat} (post : List Nat) (h : s ∉ pre) : nextOf (pre ++ s :: post) s = headI post := by
  induction pre with
  | nil => simp [nextOf]
  | cons y r ih =>
    have h1 : y ≠ s := fun e => h (by simp [e])
    have h2 : s ∉ r := fun e => h (by simp [e])
    show nextOf (y :: (r ++ s :: post)) s = _
    rw [nextOf_cons, if_neg h1]
    exact ih h2
theorem prevOf_at {pre post : List Nat} {s : Nat} (h : s ∉ post) : prevOf (pre ++ s :: post) s = lastI pre := by
  unfold prevOf
  rw [show (pre ++ s :: post).reverse = post.reverse ++ s :: pre.reverse by simp, nextOf_at _ (by simpa using h), headI_reverse]
/-- Without s whoever was just before it has what was next of it. -/
theorem nextOf_skip (s : Nat) (post : List Nat) (x : Nat) (hx : s ≠ x) : ∀ pre : List Nat, pre.Nodup → nextOf (pre ++ post) x = if lastI pre = (x : Int) then (if x ∈ pre then headI post else nextOf (pre ++ s :: post) x) else nextOf (pre ++ s :: post) x
  | [], _ => by
    rw [if_neg (by show ¬ (-1 : Int) = x; omega)]
    show nextOf post x = nextOf (s :: post) x
    rw [nextOf_cons, if_neg hx]
  | [y], _ => by
    by_cases e : y = x
    · subst e
      rw [if_pos (by rfl), if_pos (by simp)]
      show nextOf (y :: post) y = headI post
      rw [nextOf_cons, if_pos rfl]
    · rw [if_neg (by show ¬ (y : Int) = x; omega)]
      show nextOf (y :: post) x = nextOf (y :: s :: post) x
      simp only [nextOf, if_neg e, if_neg hx]
  | y :: z :: r, hn => by
    obtain ⟨h1, h2⟩ := List.nodup_cons.1 hn
    have ih := nextOf_skip s post x hx (z :: r) h2
    by_cases e : y = x
    · subst e
      rw [lastI_cons2, if_neg (fun h => h1 (lastI_mem h))]
      simp [nextOf, headI]
    · show nextOf (y :: ((z :: r) ++ post)) x = _
      rw [nextOf_cons, if_neg e, ih]
      show (if lastI (z :: r) = (x : Int) then _ else _) = if lastI (z :: r) = (x : Int) then _ else _
      have e1 : nextOf ((y :: z :: r) ++ s :: post) x = nextOf ((z :: r) ++ s :: post) x := by
        show nextOf (y :: ((z :: r) ++ s :: post)) x = _
        rw [nextOf_cons, if_neg e]
      rw [e1]
      by_cases hm : x ∈ z :: r
      · rw [if_pos hm, if_pos (List.mem_cons_of_mem _ hm)]
      · have hm' : x ∉ y :: z :: r := fun h => by
          rcases List.mem_cons.1 h with h | h
          · exact e h.symm
          · exact hm h
        rw [if_neg hm, if_neg hm']
theorem nextOf_erase {s : Nat} {pre post : List Nat} (hn : (pre ++ s :: post).Nodup) {x : Nat} (hx : s ≠ x) : nextOf (pre ++ post) x = if lastI pre = (x : Int) then headI post else nextOf (pre ++ s :: post) x := by
  have h := nextOf_skip s post x hx pre (List.nodup_append.1 hn).1
  rw [h]
  by_cases e : lastI pre = (x : Int)
  · rw [if_pos e, if_pos e, if_pos (lastI_mem e)]
  · rw [if_neg e, if_neg e]
theorem prevOf_erase {s : Nat} {pre post : List Nat} (hn : (pre ++ s :: post).Nodup) {x : Nat} (hx : s ≠ x) : prevOf (pre ++ post) x = if headI post = (x : Int) then lastI pre else prevOf (pre ++ s :: post) x := by
  have hn' : (post.reverse ++ s :: pre.reverse).Nodup := by
    have := nodup_rev hn
    rw [show (pre ++ s :: post).reverse = post.reverse ++ s :: pre.reverse by simp] at this
    exact this
  have h := nextOf_erase hn' hx
  unfold prevOf
  rw [show (pre ++ post).reverse = post.reverse ++ pre.reverse by simp, show (pre ++ s :: post).reverse = post.reverse ++ s :: pre.reverse by simp, h, lastI_reverse, headI_reverse]
theorem nextOf_snoc (s : Nat) : ∀ (l : List Nat) (x : Nat), l.Nodup → x ∈ l → nextOf (l ++ [s]) x = if lastI l = (x : Int) then (s : Int) else nextOf l x
  | [], x, _, hx => by simp at hx
  | [y], x, _, hx => by
    obtain rfl : x = y := by simpa using hx
    simp [nextOf, lastI, headI]
  | y :: z :: r, x, hn, hx => by
    obtain ⟨h1, h2⟩ := List.nodup_cons.1 hn
    by_cases e : y = x
    · subst e
      rw [lastI_cons2, if_neg (fun h => h1 (lastI_mem h))]
      simp [nextOf, headI]
    · have hx' : x ∈ z :: r := by
        rcases List.mem_cons.1 hx with h | h
        · exact absurd h.symm e
        · exact h
      show nextOf (y :: ((z :: r) ++ [s])) x = _
      rw [nextOf_cons, if_neg e, nextOf_cons, if_neg e, nextOf_snoc s (z :: r) x h2 hx', lastI_cons2]
theorem nextOf_not {l : List Nat} {x : Nat} (h : x ∉ l) (r : List Nat) : nextOf (l ++ r) x = nextOf r x := by
  induction l with
  | nil => rfl
  | cons y t ih =>
    show nextOf (y :: (t ++ r)) x = _
    rw [nextOf_cons, if_neg (fun e => h (by simp [e])), ih (fun e => h (by simp [e]))]
/-- The links of an order. -/
structure Linked (newer old : Nat → Int) (newest oldest : Int) (ord : List Nat) : Prop where
  nodup : ord.Nodup
  head : newest = headI ord
  last : oldest = lastI ord
  old : ∀ x, x ∈ ord → old x = nextOf ord x
  newer : ∀ x, x ∈ ord → newer x = prevOf ord x
def updI (f : Nat → Int) (i : Int) (v : Int) : Nat → Int := fun x => if (x : Int) = i then v else f x
theorem erase_mid {pre post : List Nat} {s : Nat} (h : s ∉ pre) : (pre ++ s :: post).erase s = pre ++ post := by
  rw [List.erase_append_right _ h, List.erase_cons_head]
theorem Linked.unlink {newer old : Nat → Int} {newest oldest : Int} {ord : List Nat} (h : Linked newer old newest oldest ord) {s : Nat} (hs : s ∈ ord) :
    Linked (if old s = -1 then newer else updI newer (old s) (newer s)) (if newer s = -1 then old else updI old (newer s) (old s)) (if newer s = -1 then old s else newest) (if old s = -1 then newer s else oldest) (ord.erase s) := by
  obtain ⟨pre, post, rfl⟩ := List.append_of_mem hs
  have hn := h.nodup
  obtain ⟨n1, n2, n3⟩ := List.nodup_append.1 hn
  obtain ⟨n4, n5⟩ := List.nodup_cons.1 n2
  have hsp : s ∉ pre := fun e => n3 s e s (by simp) rfl
  have eo : old s = headI post := (h.old s (by simp)).trans (nextOf_at post hsp)
  have en : newer s = lastI pre := (h.newer s (by simp)).trans (prevOf_at n4)
  rw [erase_mid hsp, eo, en]
  have hnd : (pre ++ post).Nodup := List.nodup_append.2 ⟨n1, n5, fun a ha b hb => n3 a ha b (List.mem_cons_of_mem _ hb)⟩
  refine ⟨hnd, ?_, ?_, fun x hx => ?_, fun x hx => ?_⟩
  · rw [h.head]
    cases pre with
    | nil => exact if_pos rfl
    | cons y r =>
      rw [if_neg (by
        rcases lastI_cases (y :: r) with ⟨_, e⟩ | ⟨x, _, e⟩
        · exact absurd e (by simp)
        · rw [e]; omega)]
      rfl
  · rw [h.last]
    have hcc : post = [] ∨ ∃ t z, post = t ++ [z] := by
      rcases List.eq_nil_or_concat post with h | ⟨t, z, h⟩
      · exact .inl h
      · exact .inr ⟨t, z, by rw [h]; simp⟩
    rcases hcc with rfl | ⟨t, z, rfl⟩
    · rw [List.append_nil]; exact if_pos rfl
    · rw [if_neg (by
        rcases headI_cases (t ++ [z]) with ⟨_, e⟩ | ⟨x, _, e⟩
        · exact absurd e (by simp)
        · rw [e]; omega)]
      rw [show pre ++ s :: (t ++ [z]) = (pre ++ s :: t) ++ [z] by simp, show pre ++ (t ++ [z]) = (pre ++ t) ++ [z] by simp, lastI_snoc, lastI_snoc]
  · have hsx : s ≠ x := by
      rintro rfl
      rcases List.mem_append.1 hx with e | e
      · exact hsp e
      · exact n4 e
    have hxo : x ∈ pre ++ s :: post := by
      rcases List.mem_append.1 hx with e | e
      · exact List.mem_append_left _ e
      · exact List.mem_append_right _ (List.mem_cons_of_mem _ e)
    rw [nextOf_erase hn hsx, ← h.old x hxo]
    by_cases e1 : lastI pre = -1
    · rw [if_pos e1, if_neg (by rw [e1]; omega)]
    · rw [if_neg e1]
      unfold updI
      by_cases e2 : (x : Int) = lastI pre
      · rw [if_pos e2, if_pos e2.symm]
      · rw [if_neg e2, if_neg (fun e => e2 e.symm)]
  · have hsx : s ≠ x := by
      rintro rfl
      rcases List.mem_append.1 hx with e | e
      · exact hsp e
      · exact n4 e
    have hxo : x ∈ pre ++ s :: post := by
      rcases List.mem_append.1 hx with e | e
      · exact List.mem_append_left _ e
      · exact List.mem_append_right _ (List.mem_cons_of_mem _ e)
    rw [prevOf_erase hn hsx, ← h.newer x hxo]
    by_cases e1 : headI post = -1
    · rw [if_pos e1, if_neg (by rw [e1]; omega)]
    · rw [if_neg e1]
      unfold updI
      by_cases e2 : (x : Int) = headI post
      · rw [if_pos e2, if_pos e2.symm]
      · rw [if_neg e2, if_neg (fun e => e2 e.symm)]
theorem Linked.link {newer old : Nat → Int} {newest oldest : Int} {ord : List Nat} (h : Linked newer old newest oldest ord) {s : Nat} (hs : s ∉ ord) :
    Linked (if newest = -1 then updI newer (s : Int) (-1) else updI (updI newer (s : Int) (-1)) newest (s : Int)) (updI old (s : Int) newest) (s : Int) (if newest = -1 then (s : Int) else oldest) (s :: ord) := by
  refine ⟨List.nodup_cons.2 ⟨hs, h.nodup⟩, rfl, ?_, fun x hx => ?_, fun x hx => ?_⟩
  · rw [h.head, h.last]
    cases ord with
    | nil => rfl
    | cons y r => rw [if_neg (by simp only [headI]; omega)]; rfl
  · unfold updI
    by_cases e : x = s
    · subst e
      rw [if_pos rfl, h.head]
      simp [nextOf]
    · have hx' : x ∈ ord := by
        rcases List.mem_cons.1 hx with h | h
        · exact absurd h e
        · exact h
      rw [if_neg (by omega), h.old x hx']
      rw [nextOf_cons, if_neg (fun h => e h.symm)]
  · have hrev : prevOf (s :: ord) x = nextOf (ord.reverse ++ [s]) x := by unfold prevOf; rw [List.reverse_cons]
    by_cases e : x = s
    · subst e
      rw [hrev, nextOf_not (by simpa using hs)]
      have e1 : nextOf [x] x = -1 := by simp [nextOf, headI]
      rw [e1]
      by_cases e2 : newest = -1
      · rw [if_pos e2]; simp [updI]
      · rw [if_neg e2]
        unfold updI
        rw [if_neg (fun e => hs (headI_mem (h.head.symm.trans e.symm))), if_pos rfl]
    · have hx' : x ∈ ord := by
        rcases List.mem_cons.1 hx with h | h
        · exact absurd h e
        · exact h
      rw [hrev, nextOf_snoc s _ x (nodup_rev h.nodup) (by simpa using hx'), lastI_reverse, ← h.head]
      by_cases e2 : newest = -1
      · have : ord = [] := by
          rcases headI_cases ord with ⟨_, e⟩ | ⟨y, _, e⟩
          · exact e
          · rw [← h.head, e2] at e; omega
        rw [this] at hx'
        simp at hx'
      · rw [if_neg e2]
        unfold updI
        by_cases e3 : (x : Int) = newest
        · rw [if_pos e3, if_pos e3.symm]
        · rw [if_neg e3, if_neg (by omega), if_neg (fun e => e3 e.symm), h.newer x hx']
          rfl
theorem Linked.empty (newer old : Nat → Int) : Linked newer old (-1) (-1) [] := ⟨List.nodup_nil, rfl, rfl, fun x hx => by simp at hx, fun x hx => by simp at hx⟩
theorem Linked.congr {newer old newer' old' : Nat → Int} {newest oldest : Int} {ord : List Nat} (h : Linked newer old newest oldest ord) (h1 : ∀ x, x ∈ ord → newer' x = newer x) (h2 : ∀ x, x ∈ ord → old' x = old x) : Linked newer' old' newest oldest ord :=
  ⟨h.nodup, h.head, h.last, fun x hx => (h2 x hx).trans (h.old x hx), fun x hx => (h1 x hx).trans (h.newer x hx)⟩
end Go.Proofs.Ytgcfcemgeppkmaa.Ord
namespace Go.Proofs.Ytgcfcemgeppkmaa.P
open Go.RowKit Go.Proofs.YtgcfcemgeppkmaaW.PrintWords Go.Proofs.YtgcfcemgeppkmaaW.PrintLast Go.Proofs.YtgcfcemgeppkmaaW.PrintMore
open Go.Proofs.Ytgcfcemgeppkmaa.Ord
set_option linter.unusedVariables false
set_option linter.unusedSimpArgs false
structure Seat where
  ka : Int
  kb : Int
  newer : Int
  old : Int
instance : Inhabited Seat := ⟨⟨0, 0, 0, 0⟩⟩
def encE (x : Seat) : List Value := [.int .i64 x.ka, .int .i64 x.kb, .int .i64 x.newer, .int .i64 x.old]
theorem encE_len (x : Seat) : (encE x).length = 4 := rfl
theorem RowIn.store1 {α : Type} [Inhabited α] {enc : α → List Value} {k e B cap : Nat} {d : Array α} {w : World} (h : RowIn enc k e B cap d w) {i : Nat} (hi : i < d.size) {c : Nat} (hc : c < k) (u : Value) (x : α) (hl : (enc d[i]!).length = k) (hx : enc x = (enc d[i]!).set c u) : RowIn enc k e B cap (d.setIfInBounds i x) (w.setCell ⟨B, i * k + c, none⟩ u) := by
  obtain ⟨cs, h1, h2, h3, h4⟩ := h
  refine ⟨_, set_blk h1 (i * k + c) u, by simpa using h2, by simpa using h3, fun j hj c' hc' => ?_⟩
  have hj' : j < d.size := by simpa using hj
  have hlt : i * k + c < cs.size := by
    have : (i + 1) * k ≤ cap * k := Nat.mul_le_mul_right _ (by omega)
    rw [Nat.add_mul, Nat.one_mul] at this
    omega
  rw [Array.getElem?_setIfInBounds]
  by_cases e1 : j = i
  · subst e1
    rw [Go.Sort.getElem!_set_same _ _ _ hj', hx, List.getElem?_set]
    by_cases e2 : c = c'
    · subst e2
      rw [if_pos rfl, if_pos hlt, if_pos rfl, if_pos (by omega)]
    · rw [if_neg (by omega), if_neg e2, h4 j hj' c' hc']
  · have hne : i * k + c ≠ j * k + c' := by
      intro e
      have a1 := idx_div (j := i) hc
      have a2 := idx_div (j := j) hc'
      rw [e] at a1
      exact e1 (a2.1.symm.trans a1.1)
    rw [if_neg hne, Go.Sort.getElem!_set_other _ _ _ _ e1, h4 j hj' c' hc']
/-- The seats' row: none yet, or a block of their own. -/
def SeatsM (w : World) (base : Nat) (sv : Value) (seats : List Seat) : Prop :=
  (sv = .slice none 0 0 ∧ seats = []) ∨ ∃ g cap, sv = .slice (some ⟨g, 0, none⟩) seats.length cap ∧ base ≤ g ∧ cap ≤ maxLen ∧ RowIn encE 4 153 g cap seats.toArray w
theorem SeatsM.slice {w : World} {base : Nat} {sv : Value} {seats : List Seat} (h : SeatsM w base sv seats) : ∃ A cap, sv = .slice A seats.length cap := by
  rcases h with ⟨rfl, rfl⟩ | ⟨g, cap, rfl, _⟩
  · exact ⟨none, 0, rfl⟩
  · exact ⟨_, _, rfl⟩
theorem SeatsM.lt {w : World} {base : Nat} {sv : Value} {seats : List Seat} (h : SeatsM w base sv seats) {b : Nat} (hb : sv.ownBlock = some b) : base ≤ b ∧ b < w.heap.size ∧ ∃ cs, w.heap[b]? = some (.cells cs 153 (0, 0)) := by
  rcases h with ⟨rfl, rfl⟩ | ⟨g, cap, rfl, h1, _, h2⟩
  · simp [Value.ownBlock] at hb
  · have : g = b := by simpa [Value.ownBlock] using hb
    subst this
    obtain ⟨cs, h3, _⟩ := h2
    exact ⟨h1, blk_lt h3, cs, h3⟩
theorem SeatsM.heap {w w' : World} {base : Nat} {sv : Value} {seats : List Seat} (h : SeatsM w base sv seats) (hb : ∀ b, sv.ownBlock = some b → w'.heap[b]? = w.heap[b]?) : SeatsM w' base sv seats := by
  rcases h with h | ⟨g, cap, rfl, h1, h2, h3⟩
  · exact .inl h
  · exact .inr ⟨g, cap, rfl, h1, h2, RowIn.heap h3 (hb g (by simp [Value.ownBlock]))⟩
theorem SeatsM.cells {w : World} {base : Nat} {sv : Value} {seats : List Seat} (h : SeatsM w base sv seats) {i : Nat} (hi : i < seats.length) :
    ∃ g cap, sv = .slice (some ⟨g, 0, none⟩) seats.length cap ∧ RowIn encE 4 153 g cap seats.toArray w ∧ w.cell? ⟨g, i * 4, none⟩ = some (.int .i64 seats[i].ka) ∧ w.cell? ⟨g, i * 4 + 1, none⟩ = some (.int .i64 seats[i].kb) ∧ w.cell? ⟨g, i * 4 + 2, none⟩ = some (.int .i64 seats[i].newer) ∧ w.cell? ⟨g, i * 4 + 3, none⟩ = some (.int .i64 seats[i].old) ∧ ∀ o, w.frozen? ⟨g, o, none⟩ = false := by
  rcases h with ⟨_, rfl⟩ | ⟨g, cap, rfl, h1, h2, h3⟩
  · simp at hi
  · have hi' : i < seats.toArray.size := by simpa using hi
    have e : seats.toArray[i]! = seats[i] := by rw [getElem!_pos seats.toArray i hi']; simp
    have hc : ∀ c, c < 4 → ∀ u, (encE seats[i])[c]? = some u → w.cell? ⟨g, i * 4 + c, none⟩ = some u := fun c hc u hu => RowIn.cell h3 hi' hc (by rw [e]; exact hu)
    exact ⟨g, cap, rfl, h3, hc 0 (by omega) _ rfl, hc 1 (by omega) _ rfl, hc 2 (by omega) _ rfl, hc 3 (by omega) _ rfl, fun o => RowIn.free h3 o⟩
theorem SeatsM.put {w : World} {base g cap : Nat} {seats : List Seat} (h : SeatsM w base (.slice (some ⟨g, 0, none⟩) seats.length cap) seats) {i : Nat} (hi : i < seats.length) {c : Nat} (hc : c < 4) (u : Value) (x : Seat) (hx : encE x = (encE seats[i]).set c u) :
    SeatsM (w.setCell ⟨g, i * 4 + c, none⟩ u) base (.slice (some ⟨g, 0, none⟩) (seats.set i x).length cap) (seats.set i x) := by
  rcases h with ⟨h, _⟩ | ⟨g', cap', e0, h1, h2, h3⟩
  · injection h with h _ _; cases h
  · injection e0 with e1 _ e2
    injection e1 with e1
    injection e1 with e1 _ _
    subst e1
    subst e2
    have hi' : i < seats.toArray.size := by simpa using hi
    have e : seats.toArray[i]! = seats[i] := by rw [getElem!_pos seats.toArray i hi']; simp
    refine .inr ⟨g, cap, rfl, h1, h2, ?_⟩
    have := RowIn.store1 h3 hi' hc u x (by rw [e]; rfl) (by rw [e]; exact hx)
    rw [List.setIfInBounds_toArray] at this
    exact this
/-! ### the keys of the map -/
abbrev mapT : TypeId := 148
abbrev keyT : TypeId := 86
theorem lruLaw : Maps.Keyed Try.prog keyT := Maps.Keyed.of_law (deep_law_laid (by kernel_rfl) (m := 2) (by omega) (of_decide_eq_true (by kernel_rfl)) (by kernel_rfl) (by kernel_rfl))
def kl (a b : Int) : Lit := .string (keyBytes [.int .i64 a, .int .i64 b])
def W64 (a : Int) : Prop := -9223372036854775808 ≤ a ∧ a ≤ 9223372036854775807
theorem wf64 {a : Int} (h : W64 a) : (Lit.int .i64 a).wf = true := WalkArith.wf_i64 h
theorem key_some {a b : Int} (ha : W64 a) (hb : W64 b) : keyOf Try.prog keyT (.agg #[.int .i64 a, .int .i64 b]) = some (kl a b) := by
  have h1 := wf64 ha
  have h2 := wf64 hb
  have hk : Try.prog.keyType keyT = true := by kernel_rfl
  obtain ⟨n, hn⟩ : ∃ n, Try.prog.types.size = n + 1 := ⟨Try.prog.types.size - 1, by kernel_rfl⟩
  have hc : Try.prog.cellsOf keyT = 2 := by kernel_rfl
  have hc3 : Try.prog.cellsOf 3 = 1 := by kernel_rfl
  unfold keyOf
  rw [Try.underlying86]
  simp only [hk, hn, Bool.true_and]
  rw [if_pos (by simp [Value.formed, Try.underlying86, hc])]
  have e3 : ∀ x : Int, (Lit.int .i64 x).wf = true → Try.prog.keyLits (n + 1) 3 [.int .i64 x] = some [.int .i64 x] := fun x hx => by
    unfold Program.keyLits
    rw [Try.underlying3]
    simp [hx]
  have e : Try.prog.keyLits (n + 1 + 1) keyT [.int .i64 a, .int .i64 b] = some [.int .i64 a, .int .i64 b] := by
    unfold Program.keyLits
    rw [Try.underlying86]
    simp [hc, hc3, List.range_succ, e3 a h1, e3 b h2]
  rw [show (Value.agg #[Value.int .i64 a, Value.int .i64 b]).cells.toList = [.int .i64 a, .int .i64 b] from rfl, e]
  rfl
theorem kl_inj {a b a' b' : Int} (ha : W64 a) (hb : W64 b) (ha' : W64 a') (hb' : W64 b') (h : kl a b = kl a' b') : a = a' ∧ b = b' := by
  have := lruLaw.inj (key_some ha hb) (by rw [h]; exact key_some ha' hb')
  simp at this
  exact this
theorem kl_key {a b : Int} (ha : W64 a) (hb : W64 b) : WideAt.IsKeyLit (kl a b) := lruLaw.key (key_some ha hb)
/-! ### the Lru -/
abbrev MapO (w : World) (mb n : Nat) (D : DataW Unit) : Prop := w.ownsMap Try.prog keyT (plainElem Try.prog 3) mb n D
/-- A map may be said to have as many entries as it has. -/
theorem MapO.fit {w : World} {mb n : Nat} {D : DataW Unit} (h : MapO w mb n D) : MapO w mb (Maps.size D) D := by
  obtain ⟨es, clock, h1, h2, h3, h4⟩ := h
  exact ⟨es, clock, h1, h2, by rw [h4, Maps.size_eq, length_sorted]; simp, h4⟩
theorem MapO.heap {w w' : World} {mb n : Nat} {D : DataW Unit} (h : MapO w mb n D) (hb : w'.heap[mb]? = w.heap[mb]?) : MapO w' mb n D := by
  obtain ⟨es, clock, h1, h2⟩ := h
  exact ⟨es, clock, hb.trans h1, h2⟩
structure LruM (w : World) (lb base : Nat) (k : Int) (sv : Value) (mb : Nat) (seats : List Seat) (newest oldest : Int) (D : DataW Unit) : Prop where
  blk : w.heap[lb]? = some (.cells #[.int .i64 k, sv, .map (some mb), .int .i64 newest, .int .i64 oldest] 150 (0, 0))
  seats : SeatsM w base sv seats
  map : MapO w mb (Maps.size D) D
  lbB : base ≤ lb
  mbB : base ≤ mb
variable {w w' : World} {lb base : Nat} {k : Int} {sv : Value} {mb : Nat} {seats : List Seat} {newest oldest : Int} {D : DataW Unit}
theorem LruM.cells (h : LruM w lb base k sv mb seats newest oldest D) : w.cell? ⟨lb, 0, none⟩ = some (.int .i64 k) ∧ w.cell? ⟨lb, 1, none⟩ = some sv ∧ w.cell? ⟨lb, 2, none⟩ = some (.map (some mb)) ∧ w.cell? ⟨lb, 3, none⟩ = some (.int .i64 newest) ∧ w.cell? ⟨lb, 4, none⟩ = some (.int .i64 oldest) :=
  ⟨cell_blk h.blk rfl, cell_blk h.blk rfl, cell_blk h.blk rfl, cell_blk h.blk rfl, cell_blk h.blk rfl⟩
theorem LruM.mbl (h : LruM w lb base k sv mb seats newest oldest D) : mb ≠ lb ∧ sv.ownBlock ≠ some mb ∧ sv.ownBlock ≠ some lb := by
  obtain ⟨es, clock, h1, _⟩ := h.map
  refine ⟨?_, ?_, ?_⟩
  · rintro rfl
    have := h.blk
    rw [h1] at this
    simp at this
  · intro e
    obtain ⟨_, _, cs, hc⟩ := h.seats.lt e
    rw [h1] at hc
    simp at hc
  · intro e
    obtain ⟨_, _, cs, hc⟩ := h.seats.lt e
    rw [h.blk] at hc
    simp at hc
/-- The blocks that an Lru writes. -/
def LruS (lb mb : Nat) (sv : Value) : Nat → Prop := fun b => b = lb ∨ b = mb ∨ sv.ownBlock = some b
theorem LruM.chg {S : Nat → Prop} (h : LruM w lb base k sv mb seats newest oldest D) (hc : Chg S w w') (hS : ∀ b, LruS lb mb sv b → ¬ S b) : LruM w' lb base k sv mb seats newest oldest D where
  blk := hc.blk h.blk (hS lb (.inl rfl))
  seats := h.seats.heap (fun b hb => hc.block b (h.seats.lt hb).2.1 (hS b (.inr (.inr hb))))
  map := h.map.heap (hc.block mb h.map.lt (hS mb (.inr (.inl rfl))))
  lbB := h.lbB
  mbB := h.mbB
def nwF (l : List Seat) : Nat → Int := fun i => (l.getD i default).newer
def odF (l : List Seat) : Nat → Int := fun i => (l.getD i default).old
def keyF (l : List Seat) : Nat → Int × Int := fun i => ((l.getD i default).ka, (l.getD i default).kb)
theorem nwF_at {l : List Seat} {i : Nat} (h : i < l.length) : nwF l i = l[i].newer := by simp [nwF, List.getD_eq_getElem?_getD, List.getElem?_eq_getElem h]
theorem odF_at {l : List Seat} {i : Nat} (h : i < l.length) : odF l i = l[i].old := by simp [odF, List.getD_eq_getElem?_getD, List.getElem?_eq_getElem h]
theorem keyF_at {l : List Seat} {i : Nat} (h : i < l.length) : keyF l i = (l[i].ka, l[i].kb) := by simp [keyF, List.getD_eq_getElem?_getD, List.getElem?_eq_getElem h]
theorem set_nw {l : List Seat} {i : Nat} (h : i < l.length) (v : Int) : nwF (l.set i { l[i] with newer := v }) = updI (nwF l) (i : Int) v ∧ odF (l.set i { l[i] with newer := v }) = odF l ∧ keyF (l.set i { l[i] with newer := v }) = keyF l := by
  refine ⟨funext fun x => ?_, funext fun x => ?_, funext fun x => ?_⟩ <;> simp only [nwF, odF, keyF, updI, List.getD_eq_getElem?_getD, List.getElem?_set] <;> by_cases e : i = x
  all_goals first
    | (subst e; simp [h])
    | (rw [if_neg e]; try rw [if_neg (by omega)])
theorem set_od {l : List Seat} {i : Nat} (h : i < l.length) (v : Int) : odF (l.set i { l[i] with old := v }) = updI (odF l) (i : Int) v ∧ nwF (l.set i { l[i] with old := v }) = nwF l ∧ keyF (l.set i { l[i] with old := v }) = keyF l := by
  refine ⟨funext fun x => ?_, funext fun x => ?_, funext fun x => ?_⟩ <;> simp only [nwF, odF, keyF, updI, List.getD_eq_getElem?_getD, List.getElem?_set] <;> by_cases e : i = x
  all_goals first
    | (subst e; simp [h])
    | (rw [if_neg e]; try rw [if_neg (by omega)])
theorem LruM.setNewest (h : LruM w lb base k sv mb seats newest oldest D) (v : Int) : LruM (w.setCell ⟨lb, 3, none⟩ (.int .i64 v)) lb base k sv mb seats v oldest D where
  blk := set_blk h.blk 3 _
  seats := h.seats.heap (fun b hb => Below.heap_setCell _ _ _ _ (fun e => h.mbl.2.2 (hb.trans (congrArg some e))))
  map := h.map.heap (Below.heap_setCell _ _ _ _ h.mbl.1)
  lbB := h.lbB
  mbB := h.mbB
theorem LruM.setOldest (h : LruM w lb base k sv mb seats newest oldest D) (v : Int) : LruM (w.setCell ⟨lb, 4, none⟩ (.int .i64 v)) lb base k sv mb seats newest v D where
  blk := set_blk h.blk 4 _
  seats := h.seats.heap (fun b hb => Below.heap_setCell _ _ _ _ (fun e => h.mbl.2.2 (hb.trans (congrArg some e))))
  map := h.map.heap (Below.heap_setCell _ _ _ _ h.mbl.1)
  lbB := h.lbB
  mbB := h.mbB
theorem LruM.setSeat (h : LruM w lb base k sv mb seats newest oldest D) {g cap : Nat} (hsv : sv = .slice (some ⟨g, 0, none⟩) seats.length cap) {i : Nat} (hi : i < seats.length) {c : Nat} (hc : c < 4) (u : Value) (x : Seat) (hx : encE x = (encE seats[i]).set c u) :
    LruM (w.setCell ⟨g, i * 4 + c, none⟩ u) lb base k sv mb (seats.set i x) newest oldest D where
  blk := (Below.heap_setCell _ _ _ _ (fun e => h.mbl.2.2 (by rw [hsv, e]; rfl))).trans h.blk
  seats := by
    have := SeatsM.put (hsv ▸ h.seats) hi hc u x hx
    rw [hsv]
    simpa using this
  map := h.map.heap (Below.heap_setCell _ _ _ _ (fun e => h.mbl.2.1 (by rw [hsv, e]; rfl)))
  lbB := h.lbB
  mbB := h.mbB
theorem LruM.alloc (h : LruM w lb base k sv mb seats newest oldest D) (o : Obj) : LruM (w.alloc o) lb base k sv mb seats newest oldest D :=
  h.chg (Chg.of_below (below_alloc (Below.refl _ _) o) (fun _ => False)) (fun _ _ h => h)
theorem LruM.drewN (h : LruM w lb base k sv mb seats newest oldest D) (n : Nat) : LruM (w.drewN n) lb base k sv mb seats newest oldest D :=
  h.chg (Chg.of_below (pw_below_drewN (Below.refl _ _) n) (fun _ => False)) (fun _ _ h => h)
theorem LruM.drew (h : LruM w lb base k sv mb seats newest oldest D) : LruM w.drew lb base k sv mb seats newest oldest D :=
  h.chg (Chg.of_below (below_drew1 (Below.refl _ _)) (fun _ => False)) (fun _ _ h => h)
theorem cfar {w : World} {p a : Addr} (h : a.block ≠ p.block) (v : Value) : (w.setCell p v).cell? a = w.cell? a := World.cell?_setCell_other _ _ _ _ (fun e => h (by rw [e]))
/-- What unlink leaves. -/
structure Unlinked (seats : List Seat) (nw od : Int) (slot : Nat) (seats' : List Seat) (nw' od' : Int) : Prop where
  len : seats'.length = seats.length
  key : keyF seats' = keyF seats
  nwE : nwF seats' = if odF seats slot = -1 then nwF seats else updI (nwF seats) (odF seats slot) (nwF seats slot)
  odE : odF seats' = if nwF seats slot = -1 then odF seats else updI (odF seats) (nwF seats slot) (odF seats slot)
  head : nw' = if nwF seats slot = -1 then odF seats slot else nw
  last : od' = if odF seats slot = -1 then nwF seats slot else od
set_option maxRecDepth 100000 in
set_option maxHeartbeats 2000000 in
theorem unlink_calls (h : LruM w lb base k sv mb seats newest oldest D) (slot : Nat) (hs : slot < seats.length) (hn : nwF seats slot = -1 ∨ ∃ p : Nat, nwF seats slot = (p : Int) ∧ p < seats.length ∧ p ≠ slot) (ho : odF seats slot = -1 ∨ ∃ p : Nat, odF seats slot = (p : Int) ∧ p < seats.length ∧ p ≠ slot) :
    Calls Try.prog 119 #[.pointer (some ⟨lb, 0, none⟩), .int .i64 slot] w fun e w' => e = .returned (.tuple #[]) ∧ ∃ seats' nw' od', LruM w' lb base k sv mb seats' nw' od' D ∧ Unlinked seats newest oldest slot seats' nw' od' ∧ Chg (LruS lb mb sv) w w' := by
  obtain ⟨g, cap, hsv, hrow, s0, s1, s2, s3, sf⟩ := h.seats.cells hs
  obtain ⟨c0, c1, c2, c3, c4⟩ := h.cells
  rw [← nwF_at hs] at s2
  rw [← odF_at hs] at s3
  have HM := Aside0.mk h
  have hb := h.blk
  have fl := fun o => free_blk h.blk o
  have f3 := fl 3
  have f4 := fl 4
  obtain ⟨n, hnn⟩ : ∃ n, n = nwF seats slot := ⟨_, rfl⟩
  obtain ⟨o, hoo⟩ : ∃ o, o = odF seats slot := ⟨_, rfl⟩
  rw [← hnn] at s2 hn
  rw [← hoo] at s3 ho
  have HN := Aside0.mk hnn
  have HO := Aside0.mk hoo
  have HSV := Aside0.mk hsv
  rw [hsv] at c1
  have hsl : (slot : Int) < (seats.length : Int) := by omega
  have HBL := Aside0.mk hb
  clear h hrow hsv hnn hoo fl hb sf
  go_enter Try.func119, Try.ntmps119
  go_upto_region 1 with (fail)
  obtain ⟨gs, hgs⟩ : ∃ gs, gs = w.heap.size := ⟨_, rfl⟩
  obtain ⟨w1, hw1⟩ : ∃ w1, w1 = w.alloc (.cells #[.int .i64 seats[slot].ka, .int .i64 seats[slot].kb, .int .i64 n, .int .i64 o] 153) := ⟨_, rfl⟩
  rw [← hw1, ← hgs]
  have hS1 : w1.heap[gs]? = some (.cells #[.int .i64 seats[slot].ka, .int .i64 seats[slot].kb, .int .i64 n, .int .i64 o] 153 (0, 0)) := by rw [hw1, hgs]; exact heap_alloc_new _ _
  have HS1 := Aside0.mk hS1
  have HM1 : Aside0 (LruM w1 lb base k sv mb seats newest oldest D) := ⟨by rw [hw1]; exact HM.out.alloc _⟩
  have HC1 : Aside0 (Chg (LruS lb mb sv) w w1) := ⟨by rw [hw1]; exact (Chg.refl _ _).alloc _⟩
  have HNE : Aside0 (gs ≠ lb ∧ gs ≠ g) := ⟨by have h1 := blk_lt HM.out.blk; have h2 := (HM.out.seats.lt (b := g) (by rw [HSV.out]; rfl)).2.1; omega⟩
  clear hw1 hgs hS1 c0 c1 c2 c3 c4 f3 f4 s0 s1 s2 s3
  have z2 := cell_blk (j := 2) (u := .int .i64 n) HS1.out rfl
  have z3 := cell_blk (j := 3) (u := .int .i64 o) HS1.out rfl
  obtain ⟨c0, c1, c2, c3, c4⟩ := HM1.out.cells
  rw [HSV.out] at c1
  have f3 := free_blk HM1.out.blk 3
  go_upto_if 14 with (fail)
  go_cut [] (fun wc => ∃ (t1 : List Seat) (nw1 : Int), Aside0 (LruM wc lb base k sv mb t1 nw1 oldest D) ∧ Aside0 (t1.length = seats.length ∧ keyF t1 = keyF seats ∧ nwF t1 = nwF seats ∧ odF t1 = (if n = -1 then odF seats else updI (odF seats) n o) ∧ odF t1 slot = o ∧ nw1 = if n = -1 then o else newest) ∧ Aside0 (wc.heap[gs]? = some (.cells #[.int .i64 seats[slot].ka, .int .i64 seats[slot].kb, .int .i64 n, .int .i64 o] 153 (0, 0))) ∧ Aside0 (Chg (LruS lb mb sv) w wc))
  case first =>
    rcases hn with rfl | ⟨p, rfl, hpl, hps⟩
    · go_wp2
      go_meet
      exact ⟨seats, o, ⟨HM1.out.setNewest o⟩, ⟨rfl, rfl, rfl, by simp, HO.out.symm, by simp⟩, ⟨(Below.heap_setCell _ _ _ _ HNE.out.1).trans HS1.out⟩, ⟨HC1.out.set_ (.inl (.inl rfl)) _⟩⟩
    · obtain ⟨g', cap', e', _, q0, q1, q2, q3, qf⟩ := HM1.out.seats.cells hpl
      obtain ⟨rfl, rfl⟩ : g' = g ∧ cap' = cap := by
        have := e'.symm.trans HSV.out
        injection this with h1 _ h2
        injection h1 with h1
        injection h1 with h1 _ _
        exact ⟨h1, h2⟩
      have hpl2 : (p : Int) < (seats.length : Int) := by omega
      have qf3 := qf (p * 4 + 3)
      have HE' := Aside0.mk e'
      have HNG : Aside0 (lb ≠ g' ∧ gs ≠ g') := ⟨⟨fun e => HM1.out.mbl.2.2 (by rw [HSV.out, e]; rfl), HNE.out.2⟩⟩
      clear e' qf q0 q1 q2
      go_wp2_with fail
      go_region_held3 (fun w' => w'.cell? ⟨lb, 1, none⟩ = some (.slice (some ⟨g', 0, none⟩) seats.length cap') ∧ w'.cell? ⟨gs, 2, none⟩ = some (.int .i64 p) ∧ w'.cell? ⟨gs, 3, none⟩ = some (.int .i64 o)) (first | exact ⟨c1, z2, z3⟩ | exact ⟨(cfar (w := w1) HNG.out.1 _).trans c1, (cfar (w := w1) HNG.out.2 _).trans z2, (cfar (w := w1) HNG.out.2 _).trans z3⟩ | go_keep) (fail)
      go_wp2
      go_meet
      obtain ⟨e1, e2, e3⟩ := set_od hpl o
      exact ⟨seats.set p { seats[p] with old := o }, newest, ⟨(HM1.out.drew).setSeat HE'.out hpl (by omega) _ _ rfl⟩, ⟨by simp, e3, e2, by rw [e1]; simp, by rw [e1, HO.out]; unfold updI; rw [if_neg (by omega)], by simp⟩, ⟨(Below.heap_setCell _ _ _ _ HNE.out.2).trans HS1.out⟩, ⟨(HC1.out.drew).set_ (.inl (.inr (.inr (by rw [HE'.out]; rfl)))) _⟩⟩
  case rest =>
    obtain ⟨t1, nw1, HT, HP, HS2, HC2⟩ := hcut
    have hlt := HP.out.1
    clear c0 c1 c2 c3 c4 z2 z3 f3
    have z2 := cell_blk (j := 2) (u := .int .i64 n) HS2.out rfl
    have z3 := cell_blk (j := 3) (u := .int .i64 o) HS2.out rfl
    obtain ⟨c0, c1, c2, c3, c4⟩ := HT.out.cells
    rw [HSV.out] at c1
    have f4 := free_blk HT.out.blk 4
    have hfin : ∀ (W : World) (t2 : List Seat) (od2 : Int), LruM W lb base k sv mb t2 nw1 od2 D → t2.length = t1.length → keyF t2 = keyF t1 → odF t2 = odF t1 → nwF t2 = (if o = -1 then nwF t1 else updI (nwF t1) o n) → od2 = (if o = -1 then n else oldest) → Chg (LruS lb mb sv) w W → ∃ seats' nw' od', LruM W lb base k sv mb seats' nw' od' D ∧ Unlinked seats newest oldest slot seats' nw' od' ∧ Chg (LruS lb mb sv) w W := by
      intro W t2 od2 h1 h2 h3 h4 h5 h6 h7
      obtain ⟨p1, p2, p3, p4, p5, p6⟩ := HP.out
      refine ⟨t2, nw1, od2, h1, ⟨h2.trans p1, h3.trans p2, ?_, ?_, ?_, ?_⟩, h7⟩
      · rw [h5, p3, ← HN.out, ← HO.out]
      · rw [h4, p4, ← HN.out, ← HO.out]
      · rw [p6, ← HN.out, ← HO.out]
      · rw [h6, ← HN.out, ← HO.out]
    have HFIN := Aside0.mk hfin
    clear hfin
    rcases ho with rfl | ⟨p, rfl, hpl, hps⟩
    · go_wp2
      go_end0
      exact ⟨rfl, HFIN.out _ t1 n (HT.out.setOldest n) rfl rfl rfl (by simp) (by simp) (HC2.out.set_ (.inl (.inl rfl)) _)⟩
    · have hpl1 : p < t1.length := by omega
      obtain ⟨g', cap', e', _, q0, q1, q2, q3, qf⟩ := HT.out.seats.cells hpl1
      rw [hlt] at e'
      obtain ⟨rfl, rfl⟩ : g' = g ∧ cap' = cap := by
        have := e'.symm.trans HSV.out
        injection this with h1 _ h2
        injection h1 with h1
        injection h1 with h1 _ _
        exact ⟨h1, h2⟩
      have hpl2 : (p : Int) < (seats.length : Int) := by omega
      have qf2 := qf (p * 4 + 2)
      have HE' := Aside0.mk e'
      have HNG : Aside0 (lb ≠ g' ∧ gs ≠ g') := ⟨⟨fun e => HT.out.mbl.2.2 (by rw [HSV.out, e]; rfl), HNE.out.2⟩⟩
      clear e' qf q0 q1 q3
      go_wp2_with fail
      go_region_held3 (fun w' => w'.cell? ⟨lb, 1, none⟩ = some (.slice (some ⟨g', 0, none⟩) seats.length cap') ∧ w'.cell? ⟨gs, 2, none⟩ = some (.int .i64 n) ∧ w'.cell? ⟨gs, 3, none⟩ = some (.int .i64 p)) (first | exact ⟨c1, z2, z3⟩ | exact ⟨(cfar (w := wc) HNG.out.1 _).trans c1, (cfar (w := wc) HNG.out.2 _).trans z2, (cfar (w := wc) HNG.out.2 _).trans z3⟩ | go_keep) (fail)
      go_wp2
      go_end0
      obtain ⟨e1, e2, e3⟩ := set_nw hpl1 n
      exact ⟨rfl, HFIN.out _ (t1.set p { t1[p] with newer := n }) oldest ((HT.out.drew).setSeat (by rw [hlt]; exact HE'.out) hpl1 (by omega) _ _ rfl) (by simp) e3 e2 (by rw [e1]; simp) (by simp) ((HC2.out.drew).set_ (.inl (.inr (.inr (by rw [HE'.out]; rfl)))) _)⟩
/-- What link leaves. -/
structure LinkedBy (seats : List Seat) (nw od : Int) (slot : Nat) (seats' : List Seat) (nw' od' : Int) : Prop where
  len : seats'.length = seats.length
  key : keyF seats' = keyF seats
  nwE : nwF seats' = if nw = -1 then updI (nwF seats) (slot : Int) (-1) else updI (updI (nwF seats) (slot : Int) (-1)) nw (slot : Int)
  odE : odF seats' = updI (odF seats) (slot : Int) nw
  head : nw' = (slot : Int)
  last : od' = if nw = -1 then (slot : Int) else od
set_option maxRecDepth 100000 in
set_option maxHeartbeats 2000000 in
theorem link_calls (h : LruM w lb base k sv mb seats newest oldest D) (slot : Nat) (hs : slot < seats.length) (hn : newest = -1 ∨ ∃ p : Nat, newest = (p : Int) ∧ p < seats.length ∧ p ≠ slot) :
    Calls Try.prog 120 #[.pointer (some ⟨lb, 0, none⟩), .int .i64 slot] w fun e w' => e = .returned (.tuple #[]) ∧ ∃ seats' nw' od', LruM w' lb base k sv mb seats' nw' od' D ∧ LinkedBy seats newest oldest slot seats' nw' od' ∧ Chg (LruS lb mb sv) w w' := by
  obtain ⟨g, cap, hsv, hrow, s0, s1, s2, s3, sf⟩ := h.seats.cells hs
  obtain ⟨c0, c1, c2, c3, c4⟩ := h.cells
  have HM := Aside0.mk h
  have HSV := Aside0.mk hsv
  have HNG : Aside0 (lb ≠ g) := ⟨fun e => h.mbl.2.2 (by rw [hsv, e]; rfl)⟩
  rw [hsv] at c1
  have hsl : (slot : Int) < (seats.length : Int) := by omega
  have qf2 := sf (slot * 4 + 2)
  have qf3 := sf (slot * 4 + 3)
  clear h hrow hsv sf s0 s1
  go_enter Try.func120, Try.ntmps120
  go_wp2_with fail
  go_region_held3 (fun w' => w'.cell? ⟨lb, 1, none⟩ = some (.slice (some ⟨g, 0, none⟩) seats.length cap) ∧ w'.cell? ⟨lb, 3, none⟩ = some (.int .i64 newest)) (first | exact ⟨c1, c3⟩ | exact ⟨(cfar (w := w) HNG.out _).trans c1, (cfar (w := w) HNG.out _).trans c3⟩ | exact ⟨(cfar HNG.out _).trans ((cfar (w := w) HNG.out _).trans c1), (cfar HNG.out _).trans ((cfar (w := w) HNG.out _).trans c3)⟩ | go_keep) (fail)
  go_upto_if 26 with (fail)
  obtain ⟨w2, hw2⟩ : ∃ w2, w2 = ((w.setCell ⟨g, slot * 4 + 2, none⟩ (.int .i64 (-1))).setCell ⟨g, slot * 4 + 3, none⟩ (.int .i64 newest)).drew := ⟨_, rfl⟩
  rw [← hw2]
  obtain ⟨t1, ht1⟩ : ∃ t1, t1 = seats.set slot { seats[slot] with newer := -1 } := ⟨_, rfl⟩
  have hl1 : t1.length = seats.length := by rw [ht1]; simp
  obtain ⟨t2, ht2⟩ : ∃ t2, t2 = t1.set slot { t1[slot]'(by omega) with old := newest } := ⟨_, rfl⟩
  have hl2 : t2.length = seats.length := by rw [ht2]; simp [hl1]
  have hM1 : LruM (w.setCell ⟨g, slot * 4 + 2, none⟩ (.int .i64 (-1))) lb base k sv mb t1 newest oldest D := by
    rw [ht1]
    exact HM.out.setSeat HSV.out hs (by omega) _ _ rfl
  have hM2 : LruM w2 lb base k sv mb t2 newest oldest D := by
    rw [hw2, ht2]
    exact (hM1.setSeat (by rw [hl1]; exact HSV.out) (show slot < t1.length by omega) (by omega) _ _ rfl).drew
  have hC2 : Chg (LruS lb mb sv) w w2 := by
    rw [hw2]
    exact (((Chg.refl _ _).set_ (.inl (.inr (.inr (by rw [HSV.out]; rfl)))) _).set_ (.inl (.inr (.inr (by rw [HSV.out]; rfl)))) _).drew
  obtain ⟨a1, a2, a3⟩ := set_nw hs (-1)
  rw [← ht1] at a1 a2 a3
  obtain ⟨b1, b2, b3⟩ := set_od (show slot < t1.length by omega) newest
  rw [← ht2] at b1 b2 b3
  rw [a2] at b1
  rw [a1] at b2
  rw [a3] at b3
  have HT := Aside0.mk hM2
  have HC2 := Aside0.mk hC2
  have HP := Aside0.mk (And.intro b1 (And.intro b2 b3))
  have HL2 := Aside0.mk hl2
  clear hw2 ht1 hl1 ht2 hl2 hM1 hM2 hC2 a1 a2 a3 b1 b2 b3 c0 c1 c2 c3 c4 qf2 qf3 s2 s3
  obtain ⟨c0, c1, c2, c3, c4⟩ := HT.out.cells
  rw [HSV.out] at c1
  have f3 := free_blk HT.out.blk 3
  have f4 := free_blk HT.out.blk 4
  rcases hn with rfl | ⟨p, rfl, hpl, hps⟩
  · go_wp2
    go_end0
    refine ⟨rfl, t2, slot, slot, (HT.out.setOldest slot).setNewest slot, ⟨HL2.out, HP.out.2.2, by rw [HP.out.2.1]; simp, HP.out.1, rfl, by simp⟩, (HC2.out.set_ (.inl (.inl rfl)) _).set_ (.inl (.inl rfl)) _⟩
  · have hpl1 : p < t2.length := by rw [HL2.out]; exact hpl
    obtain ⟨g', cap', e', _, q0, q1, q2, q3, qf⟩ := HT.out.seats.cells hpl1
    rw [HL2.out] at e'
    obtain ⟨rfl, rfl⟩ : g' = g ∧ cap' = cap := by
      have := e'.symm.trans HSV.out
      injection this with h1 _ h2
      injection h1 with h1
      injection h1 with h1 _ _
      exact ⟨h1, h2⟩
    have hpl2 : (p : Int) < (seats.length : Int) := by omega
    have qf2 := qf (p * 4 + 2)
    have HE' := Aside0.mk e'
    clear e' qf q0 q1 q3
    go_wp2_with fail
    go_region_held3 (fun w' => w'.cell? ⟨lb, 1, none⟩ = some (.slice (some ⟨g', 0, none⟩) seats.length cap') ∧ w'.cell? ⟨lb, 3, none⟩ = some (.int .i64 p)) (first | exact ⟨c1, c3⟩ | exact ⟨(cfar (w := w2) HNG.out _).trans c1, (cfar (w := w2) HNG.out _).trans c3⟩ | go_keep) (fail)
    have g3 : ((w2.setCell ⟨g', p * 4 + 2, none⟩ (.int .i64 slot)).drew).cell? ⟨lb, 3, none⟩ = some (.int .i64 p) := (cfar (w := w2) HNG.out _).trans c3
    have f3' : ((w2.setCell ⟨g', p * 4 + 2, none⟩ (.int .i64 slot)).drew).frozen? ⟨lb, 3, none⟩ = false := free_blk (w := (w2.setCell ⟨g', p * 4 + 2, none⟩ (.int .i64 slot)).drew) ((Below.heap_setCell _ _ _ _ HNG.out).trans HT.out.blk) 3
    go_wp2
    go_end0
    obtain ⟨e1, e2, e3⟩ := set_nw hpl1 (slot : Int)
    refine ⟨rfl, t2.set p { t2[p] with newer := slot }, slot, oldest, (((HT.out.drew).setSeat (by rw [HL2.out]; exact HE'.out) hpl1 (by omega) _ _ rfl).setNewest slot), ⟨by simp [HL2.out], e3.trans HP.out.2.2, ?_, e2.trans HP.out.1, rfl, ?_⟩, ((HC2.out.drew).set_ (.inl (.inr (.inr (by rw [HE'.out]; rfl)))) _).set_ (.inl (.inl rfl)) _⟩
    · rw [e1, HP.out.2.1, if_neg (by omega)]
    · rw [if_neg (by omega)]
end Go.Proofs.Ytgcfcemgeppkmaa.P
namespace Go.Proofs.Ytgcfcemgeppkmaa.P
open Go.RowKit Go.Proofs.YtgcfcemgeppkmaaW.PrintWords Go.Proofs.YtgcfcemgeppkmaaW.PrintLast Go.Proofs.YtgcfcemgeppkmaaW.PrintMore
open Go.Proofs.Ytgcfcemgeppkmaa.Ord
set_option linter.unusedVariables false
set_option linter.unusedSimpArgs false
/-- The keys of an Lru, slot by slot, and its map, agree. -/
structure KeysOk (seats : List Seat) (D : DataW Unit) : Prop where
  wf : ∀ i, i < seats.length → W64 (keyF seats i).1 ∧ W64 (keyF seats i).2
  has : ∀ i, i < seats.length → Maps.has D (kl (keyF seats i).1 (keyF seats i).2) = true ∧ D.atKey (kl (keyF seats i).1 (keyF seats i).2) (.lit (.int .i64 0)) = .lit (.int .i64 (i : Int))
  only : ∀ a b, W64 a → W64 b → Maps.has D (kl a b) = true → ∃ i, i < seats.length ∧ keyF seats i = (a, b)
  inj : ∀ i j, i < seats.length → j < seats.length → keyF seats i = keyF seats j → i = j
  size : Maps.size D = seats.length
structure LruOk (w : World) (lb base : Nat) (k : Int) (sv : Value) (mb : Nat) (seats : List Seat) (newest oldest : Int) (D : DataW Unit) (ord : List Nat) : Prop where
  m : LruM w lb base k sv mb seats newest oldest D
  link : Linked (nwF seats) (odF seats) newest oldest ord
  all : ∀ i, i ∈ ord ↔ i < seats.length
  keys : KeysOk seats D
  k1 : 1 ≤ k
  room : (seats.length : Int) ≤ k
variable {w w' : World} {lb base : Nat} {k : Int} {sv : Value} {mb : Nat} {seats : List Seat} {newest oldest : Int} {D : DataW Unit} {ord : List Nat}
theorem LruOk.prev (h : LruOk w lb base k sv mb seats newest oldest D ord) {i : Nat} (hi : i < seats.length) : nwF seats i = -1 ∨ ∃ p : Nat, nwF seats i = (p : Int) ∧ p < seats.length ∧ p ≠ i := by
  have hm := (h.all i).2 hi
  rw [h.link.newer i hm]
  unfold prevOf
  have hm' : i ∈ ord.reverse := by simpa using hm
  obtain ⟨pre, post, e⟩ := List.append_of_mem hm'
  have hn := nodup_rev h.link.nodup
  rw [e] at hn ⊢
  obtain ⟨n1, n2, n3⟩ := List.nodup_append.1 hn
  rw [nextOf_at _ (fun e => n3 i e i (by simp) rfl)]
  rcases headI_cases post with ⟨e1, _⟩ | ⟨x, hx, e1⟩
  · exact .inl e1
  · refine .inr ⟨x, e1, (h.all x).1 ?_, ?_⟩
    · have : x ∈ ord.reverse := by rw [e]; simp [hx]
      simpa using this
    · rintro rfl
      exact (List.nodup_cons.1 n2).1 hx
theorem LruOk.next (h : LruOk w lb base k sv mb seats newest oldest D ord) {i : Nat} (hi : i < seats.length) : odF seats i = -1 ∨ ∃ p : Nat, odF seats i = (p : Int) ∧ p < seats.length ∧ p ≠ i := by
  have hm := (h.all i).2 hi
  rw [h.link.old i hm]
  obtain ⟨pre, post, e⟩ := List.append_of_mem hm
  have hn := h.link.nodup
  rw [e] at hn ⊢
  obtain ⟨n1, n2, n3⟩ := List.nodup_append.1 hn
  rw [nextOf_at _ (fun e => n3 i e i (by simp) rfl)]
  rcases headI_cases post with ⟨e1, _⟩ | ⟨x, hx, e1⟩
  · exact .inl e1
  · refine .inr ⟨x, e1, (h.all x).1 ?_, ?_⟩
    · rw [e]; simp [hx]
    · rintro rfl
      exact (List.nodup_cons.1 n2).1 hx
theorem zero3 (w : World) : (zeroValue 3).run Try.prog w = .ok (.int .i64 0) w := by kernel_rfl
/-- What is looked up. -/
theorem MapO.look {n : Nat} (h : MapO w mb n D) {a b : Int} (ha : W64 a) (hb : W64 b) : ∃ c : Int, (Instr.lookup mapT (.map (some mb)) (.agg #[.int .i64 a, .int .i64 b]) true).run Try.prog w = .ok (.tuple #[.int .i64 c, .bool (Maps.has D (kl a b))]) w ∧ D.atKey (kl a b) (.lit (.int .i64 0)) = .lit (.int .i64 c) := by
  obtain ⟨v, ps, hr, hv⟩ := h.look_ok lruLaw Try.underlying148 (zero3 w) (plainElem_int Try.underlying3 (by decide)) (key_some ha hb)
  obtain ⟨c, rfl, hc, _⟩ := plainElem_int_inv Try.underlying3 hv
  exact ⟨c, hr, congrArg Prod.fst hc⟩
theorem MapO.look_hit {n : Nat} (h : MapO w mb n D) (hk : KeysOk seats D) {i : Nat} (hi : i < seats.length) {a b : Int} (hab : keyF seats i = (a, b)) : ∀ q, (Instr.lookup mapT (.map (some mb)) (.agg #[.int .i64 a, .int .i64 b]) true).run Try.prog (w.drewN q) = .ok (.tuple #[.int .i64 i, .bool true]) (w.drewN q) := by
  intro q
  have hwf := hk.wf i hi
  obtain ⟨h1, h2⟩ := hk.has i hi
  rw [hab] at hwf h1 h2
  have hm : MapO (w.drewN q) mb n D := h.heap (by rw [drewN_heap'])
  obtain ⟨c, hr, hc⟩ := hm.look hwf.1 hwf.2
  rw [h1] at hr
  rw [hc] at h2
  have : c = (i : Int) := by simpa using h2
  rw [← this]
  exact hr
theorem MapO.look_miss {n : Nat} (h : MapO w mb n D) {a b : Int} (ha : W64 a) (hb : W64 b) (hm : Maps.has D (kl a b) = false) : ∀ q, (Instr.lookup mapT (.map (some mb)) (.agg #[.int .i64 a, .int .i64 b]) true).run Try.prog (w.drewN q) = .ok (.tuple #[.int .i64 0, .bool false]) (w.drewN q) := by
  intro q
  have hm' : MapO (w.drewN q) mb n D := h.heap (by rw [drewN_heap'])
  obtain ⟨c, hr, hc⟩ := hm'.look ha hb
  rw [hm] at hr
  rw [Maps.atKey_of_not_has hm] at hc
  have : c = 0 := by simpa [eq_comm] using hc
  rw [this] at hr
  exact hr
theorem MapO.store (h : MapO w mb (Maps.size D) D) (hn : Maps.size D < maxLen) {a b : Int} (ha : W64 a) (hb : W64 b) (v : Int) (hv : W64 v) : ∃ w', (Instr.mapUpdate mapT (.map (some mb)) (.agg #[.int .i64 a, .int .i64 b]) (.int .i64 v)).run Try.prog w = .ok () w' ∧ MapO w' mb (Maps.size (D.put (kl a b) (.lit (.int .i64 v)))) (D.put (kl a b) (.lit (.int .i64 v))) ∧ w.grownBy w' (some mb) := by
  obtain ⟨w', hr, ho, ht⟩ := World.ownsMap.store h lruLaw Try.underlying148 hn (key_some ha hb) (plainElem_int Try.underlying3 (wf64 hv))
  exact ⟨w', hr, MapO.fit ho, ht.grown⟩
theorem MapO.drop (h : MapO w mb (Maps.size D) D) {a b : Int} (ha : W64 a) (hb : W64 b) (ty : TypeId) : ∃ w', (Builtin.delete_ #[mapT, keyT] ty #[.map (some mb), .agg #[.int .i64 a, .int .i64 b]]).run Try.prog w = .ok (.tuple #[]) w' ∧ MapO w' mb (Maps.size (D.del (kl a b))) (D.del (kl a b)) ∧ w.grownBy w' (some mb) := by
  obtain ⟨w', hr, ho, ht⟩ := World.ownsMap.drop h lruLaw Try.underlying148 (key_some ha hb) ty
  exact ⟨w', hr, MapO.fit ho, ht.grown⟩
theorem LruM.mapTurn {D' : DataW Unit} (h : LruM w lb base k sv mb seats newest oldest D) (hg : w.grownBy w' (some mb)) (hm : MapO w' mb (Maps.size D') D') : LruM w' lb base k sv mb seats newest oldest D' where
  blk := (hg.block lb (blk_lt h.blk) (fun e => h.mbl.1 (by injection e with e; exact e.symm))).trans h.blk
  seats := h.seats.heap (fun b hb => hg.block b (h.seats.lt hb).2.1 (fun e => h.mbl.2.1 (hb.trans e)))
  map := hm
  lbB := h.lbB
  mbB := h.mbB
theorem KeysOk.put_hit {seats s' : List Seat} {D : DataW Unit} (h : KeysOk seats D) (ht : Maps.Tidy D) {i : Nat} (hi : i < seats.length) {a b : Int} (hab : keyF seats i = (a, b)) (hl : s'.length = seats.length) (hk : keyF s' = keyF seats) : KeysOk s' (D.put (kl a b) (.lit (.int .i64 (i : Int)))) where
  wf j hj := by rw [hk]; exact h.wf j (by omega)
  has j hj := by
    have hj' : j < seats.length := by omega
    have hwi := h.wf i hi
    have hwj := h.wf j hj'
    rw [hk]
    by_cases e : j = i
    · subst e
      rw [hab] at hwi ⊢
      exact ⟨Maps.has_put_same ht.isMap (kl_key hwi.1 hwi.2) _, Maps.atKey_put_same ht.isMap (kl_key hwi.1 hwi.2) _ _⟩
    · have hne : kl (keyF seats j).1 (keyF seats j).2 ≠ kl a b := by
        intro e'
        rw [hab] at hwi
        obtain ⟨e1, e2⟩ := kl_inj hwj.1 hwj.2 hwi.1 hwi.2 e'
        exact e (h.inj j i hj' hi (by rw [hab]; exact Prod.ext e1 e2))
      rw [Maps.has_put_other hne, Maps.atKey_put_other hne]
      exact h.has j hj'
  only a' b' ha hb hh := by
    rw [hk, hl]
    by_cases e : kl a' b' = kl a b
    · have hwi := h.wf i hi
      rw [hab] at hwi
      obtain ⟨e1, e2⟩ := kl_inj ha hb hwi.1 hwi.2 e
      exact ⟨i, hi, by rw [hab, e1, e2]⟩
    · rw [Maps.has_put_other e] at hh
      exact h.only a' b' ha hb hh
  inj x y hx hy hxy := by rw [hk] at hxy; exact h.inj x y (by omega) (by omega) hxy
  size := by
    have := h.has i hi
    rw [hab] at this
    rw [Maps.size_put ht, if_pos this.1, hl]
    exact h.size
theorem Unlinked.linked {seats s3 : List Seat} {nw od nw3 od3 : Int} {ord : List Nat} {i : Nat} (h : Unlinked seats nw od i s3 nw3 od3) (hl : Linked (nwF seats) (odF seats) nw od ord) (hi : i ∈ ord) : Linked (nwF s3) (odF s3) nw3 od3 (ord.erase i) := by
  have := hl.unlink hi
  rw [← h.nwE, ← h.odE, ← h.head, ← h.last] at this
  exact this
theorem LinkedBy.linked {seats s3 : List Seat} {nw od nw3 od3 : Int} {ord : List Nat} {i : Nat} (h : LinkedBy seats nw od i s3 nw3 od3) (hl : Linked (nwF seats) (odF seats) nw od ord) (hi : i ∉ ord) : Linked (nwF s3) (odF s3) nw3 od3 (i :: ord) := by
  rw [h.nwE, h.odE, h.head, h.last]
  exact hl.link hi
theorem not_mem_erase {l : List Nat} (h : l.Nodup) (i : Nat) : i ∉ l.erase i := fun hm => (List.Nodup.mem_erase_iff h).1 hm |>.1 rfl
theorem mem_erase' {l : List Nat} (h : l.Nodup) {i x : Nat} (hx : x ∈ l.erase i) : x ≠ i ∧ x ∈ l := (List.Nodup.mem_erase_iff h).1 hx
theorem head_room {nw : Int} {ord : List Nat} {i n : Nat} (hh : nw = headI ord) (hi : i ∉ ord) (hn : ∀ x, x ∈ ord → x < n) : nw = -1 ∨ ∃ p : Nat, nw = (p : Int) ∧ p < n ∧ p ≠ i := by
  rcases headI_cases ord with ⟨e, _⟩ | ⟨x, hx, e⟩
  · exact .inl (hh.trans e)
  · exact .inr ⟨x, hh.trans e, hn x hx, fun e => hi (e ▸ hx)⟩
/-- What Use tells, and what it leaves, by keys and order alone. -/
structure Used (n : Nat) (k : Int) (ks : Nat → Int × Int) (ord : List Nat) (a b : Int) (slot : Nat) (had out : Bool) (n' : Nat) (ks' : Nat → Int × Int) (ord' : List Nat) : Prop where
  hit : had = true → slot < n ∧ ks slot = (a, b) ∧ out = false ∧ n' = n ∧ ks' = ks ∧ ord' = slot :: ord.erase slot
  miss : had = false → (∀ i, i < n → ks i ≠ (a, b)) ∧ (∀ i, ks' i = if i = slot then (a, b) else ks i)
  fresh : had = false → (n : Int) < k → slot = n ∧ out = false ∧ n' = n + 1 ∧ ord' = n :: ord
  evict : had = false → ¬ (n : Int) < k → slot < n ∧ (slot : Int) = lastI ord ∧ out = true ∧ n' = n ∧ ord' = slot :: ord.erase slot
set_option maxRecDepth 100000 in
set_option maxHeartbeats 4000000 in
theorem use_hit (h : LruOk w lb base k sv mb seats newest oldest D ord) {a b : Int} {i : Nat} (hi : i < seats.length) (hab : keyF seats i = (a, b)) (hsm : seats.length ≤ 1000000) :
    Calls Try.prog 98 #[.pointer (some ⟨lb, 0, none⟩), .int .i64 a, .int .i64 b] w fun e w' => e = .returned (.tuple #[.int .i64 i, .bool true, .bool false]) ∧ ∃ seats' nw' od' D', LruOk w' lb base k sv mb seats' nw' od' D' (i :: ord.erase i) ∧ seats'.length = seats.length ∧ keyF seats' = keyF seats ∧ Chg (LruS lb mb sv) w w' := by
  obtain ⟨c0, c1, c2, c3, c4⟩ := h.m.cells
  have HM := Aside0.mk h
  have HAB := Aside0.mk hab
  have HSM := Aside0.mk hsm
  have hwf := h.keys.wf i hi
  rw [hab] at hwf
  have HWF := Aside0.mk hwf
  clear h hab hwf hsm
  go_enter Try.func98, Try.ntmps98
  go_upto_region 4 with (fail)
  obtain ⟨gk, hgk⟩ : ∃ gk, gk = w.heap.size := ⟨_, rfl⟩
  obtain ⟨w1, hw1⟩ : ∃ w1, w1 = w.alloc (.cells #[.int .i64 a, .int .i64 b] keyT) := ⟨_, rfl⟩
  rw [← hw1, ← hgk]
  have hK1 : w1.heap[gk]? = some (.cells #[.int .i64 a, .int .i64 b] keyT (0, 0)) := by rw [hw1, hgk]; exact heap_alloc_new _ _
  have HM1 : Aside0 (LruM w1 lb base k sv mb seats newest oldest D) := ⟨by rw [hw1]; exact HM.out.m.alloc _⟩
  have HC1 : Aside0 (Chg (LruS lb mb sv) w w1) := ⟨by rw [hw1]; exact (Chg.refl _ _).alloc _⟩
  have HGK : Aside0 (¬ LruS lb mb sv gk) := ⟨by
    rw [hgk]
    rintro (e | e | e)
    · have := blk_lt HM.out.m.blk; omega
    · have := HM.out.m.map.lt; omega
    · have := (HM.out.m.seats.lt e).2.1; omega⟩
  have hlook := HM1.out.map.look_hit HM.out.keys hi HAB.out
  have HK1 := Aside0.mk hK1
  have k0 := cell_blk (j := 0) (u := .int .i64 a) hK1 rfl
  have k1 := cell_blk (j := 1) (u := .int .i64 b) hK1 rfl
  clear hw1 hgk hK1 c0 c1 c2 c3 c4
  obtain ⟨c0, c1, c2, c3, c4⟩ := HM1.out.cells
  go_quiet (fail)
  clear hlook
  have HM2 := Aside0.mk (HM1.out.drewN nq)
  have HC2 : Aside0 (Chg (LruS lb mb sv) w (w1.drewN nq)) := ⟨HC1.out.trans (Chg.of_below (pw_below_drewN (Below.refl _ _) nq) _)⟩
  have HK2 : Aside0 ((w1.drewN nq).heap[gk]? = some (.cells #[.int .i64 a, .int .i64 b] keyT (0, 0))) := ⟨by rw [drewN_heap']; exact HK1.out⟩
  generalize w1.drewN nq = w2 at *
  clear c0 c1 c2 c3 c4 k0 k1 HM1 HC1 HK1
  go_upto_region 14 with (go_at_call 119; refine (unlink_calls HM2.out i hi (HM.out.prev hi) (HM.out.next hi)).mono ?_; rintro e w3 ⟨rfl, s3, nw3, od3, hm3, hu3, hc3⟩; have HM3 := Aside0.mk hm3; have HU3 := Aside0.mk hu3; have HC3 := Aside0.mk (HC2.out.trans hc3); have HK3 := Aside0.mk (hc3.blk HK2.out HGK.out); clear hm3 hu3 hc3)
  have hK3 := HK3.out
  obtain ⟨c0, c1, c2, c3, c4⟩ := HM3.out.cells
  have k0 := cell_blk (j := 0) (u := .int .i64 a) HK3.out rfl
  have k1 := cell_blk (j := 1) (u := .int .i64 b) HK3.out rfl
  obtain ⟨w4, hst, hmo, hgr⟩ := MapO.store (w := w3.drew) HM3.out.drew.map (by rw [HM.out.keys.size]; have := HSM.out; unfold maxLen; omega) HWF.out.1 HWF.out.2 (i : Int) ⟨by omega, by have := HSM.out; omega⟩
  have HM4 := Aside0.mk (HM3.out.drew.mapTurn hgr hmo)
  have HG4 := Aside0.mk hgr
  have HK4 : Aside0 (w4.heap[gk]? = some (.cells #[.int .i64 a, .int .i64 b] keyT (0, 0))) := ⟨(hgr.block gk (blk_lt HK3.out) (fun e => HGK.out (.inr (.inl (by injection e))))).trans HK3.out⟩
  clear hK3 hmo hgr
  have q2 := HM4.out.cells.2.2.1
  have q0 := cell_blk (j := 0) (u := .int .i64 a) HK4.out rfl
  have q1 := cell_blk (j := 1) (u := .int .i64 b) HK4.out rfl
  go_region_held3 (fun w' => w'.cell? ⟨lb, 2, none⟩ = some (.map (some mb)) ∧ w'.cell? ⟨gk, 0, none⟩ = some (.int .i64 a) ∧ w'.cell? ⟨gk, 1, none⟩ = some (.int .i64 b)) (first | exact ⟨c2, k0, k1⟩ | exact ⟨q2, q0, q1⟩ | go_keep) (fail)
  clear hst c0 c1 c2 c3 c4 k0 k1 q0 q1 q2
  have hL3 : Linked (nwF s3) (odF s3) nw3 od3 (ord.erase i) := HU3.out.linked HM.out.link ((HM.out.all i).2 hi)
  have HL3 := Aside0.mk hL3
  have hni := not_mem_erase HM.out.link.nodup i
  have hr3 := head_room hL3.head hni (n := s3.length) (fun x hx => by rw [HU3.out.len]; exact (HM.out.all x).1 (mem_erase' HM.out.link.nodup hx).2)
  have HR3 := Aside0.mk hr3
  have HNI := Aside0.mk hni
  clear hL3 hni hr3
  go_wp2_with (go_at_call 120; refine (link_calls HM4.out i (by rw [HU3.out.len]; exact hi) HR3.out).mono ?_; rintro e w5 ⟨rfl, s5, nw5, od5, hm5, hu5, hc5⟩; have HM5 := Aside0.mk hm5; have HU5 := Aside0.mk hu5; have HC5 := Aside0.mk hc5; clear hm5 hu5 hc5)
  go_ret3
  refine ⟨rfl, s5, nw5, od5, _, ⟨HM5.out, HU5.out.linked HL3.out HNI.out, fun x => ?_, HM.out.keys.put_hit (HM.out.m.map.tidy lruLaw) hi HAB.out (HU5.out.len.trans HU3.out.len) (HU5.out.key.trans HU3.out.key), HM.out.k1, by rw [HU5.out.len, HU3.out.len]; exact HM.out.room⟩, HU5.out.len.trans HU3.out.len, HU5.out.key.trans HU3.out.key, ?_⟩
  · rw [HU5.out.len, HU3.out.len, ← HM.out.all x, List.mem_cons, List.Nodup.mem_erase_iff HM.out.link.nodup]
    have := (HM.out.all i).2 hi
    constructor
    · rintro (rfl | h)
      · exact this
      · exact h.2
    · intro h
      by_cases e : x = i
      · exact .inl e
      · exact .inr ⟨e, h⟩
  · exact (HC3.out.drew.then_ (Chg.of_grown HG4.out (S := LruS lb mb sv) (fun k hk => .inr (.inl (by injection hk with hk; exact hk.symm)))) (fun _ h => .inl h)).trans HC5.out
theorem infoSeat : (Try.prog.info? 153).map (fun i => (i.zero, i.size, i.bytes)) = some (some (.agg #[.int .i64 0, .int .i64 0, .int .i64 0, .int .i64 0]), 4, 32) := by kernel_rfl
theorem SeatsM.owns (h : SeatsM w base sv seats) : w.ownsRow base 153 4 sv seats.length (seats.flatMap encE) := by
  rcases h with ⟨rfl, rfl⟩ | ⟨g, cap, rfl, h1, h2, h3⟩
  · exact ⟨by simp, .inl ⟨rfl, rfl⟩⟩
  · exact RowIn_ownsRow encE_len h3 h1 h2
theorem SeatsM.of_owns {l : List Seat} {inner : List Value} (h : w.ownsRow base 153 4 sv l.length inner) (hi : inner = l.flatMap encE) : SeatsM w base sv l := by
  rcases ownsRow_RowIn encE_len h hi with ⟨rfl, rfl⟩ | ⟨B, cap, rfl, h1, h2, h3⟩
  · exact .inl ⟨rfl, rfl⟩
  · exact .inr ⟨B, cap, rfl, h1, h2, h3⟩
theorem snoc_owns {l : List Seat} {x : Seat} {cs : List Value} (h : w.ownsRow base 153 4 sv (l.length + 1) (l.flatMap encE ++ cs)) (hx : encE x = cs) : SeatsM w base sv (l ++ [x]) :=
  SeatsM.of_owns (l := l ++ [x]) (inner := l.flatMap encE ++ cs) (by simpa using h) (by simp [hx])
theorem keyF_snoc (l : List Seat) (x : Seat) (i : Nat) : keyF (l ++ [x]) i = if i = l.length then (x.ka, x.kb) else keyF l i := by
  unfold keyF
  simp only [List.getD_eq_getElem?_getD]
  by_cases e : i = l.length
  · subst e
    rw [if_pos rfl]
    simp
  · rw [if_neg e]
    by_cases h : i < l.length
    · rw [List.getElem?_append_left h]
    · rw [List.getElem?_eq_none (by simp; omega), List.getElem?_eq_none (by omega)]
theorem nwF_snoc (l : List Seat) (x : Seat) {i : Nat} (h : i < l.length) : nwF (l ++ [x]) i = nwF l i ∧ odF (l ++ [x]) i = odF l i := by
  unfold nwF odF
  simp only [List.getD_eq_getElem?_getD]
  rw [List.getElem?_append_left h]
  exact ⟨rfl, rfl⟩
/-- A key that was not there goes to a slot of its own: a new one, or one whose key is gone. -/
theorem KeysOk.put_new {ks : Nat → Int × Int} {n : Nat} {D : DataW Unit} (ht : Maps.Tidy D) {s' : List Seat} {a b : Int} (ha : W64 a) (hb : W64 b) {i : Nat} (hi : i < s'.length)
    (hwf : ∀ j, j < s'.length → j ≠ i → W64 (ks j).1 ∧ W64 (ks j).2)
    (hhas : ∀ j, j < s'.length → j ≠ i → Maps.has D (kl (ks j).1 (ks j).2) = true ∧ D.atKey (kl (ks j).1 (ks j).2) (.lit (.int .i64 0)) = .lit (.int .i64 (j : Int)))
    (honly : ∀ a' b', W64 a' → W64 b' → Maps.has D (kl a' b') = true → ∃ j, j < s'.length ∧ j ≠ i ∧ ks j = (a', b'))
    (hinj : ∀ x y, x < s'.length → y < s'.length → x ≠ i → y ≠ i → ks x = ks y → x = y)
    (hno : Maps.has D (kl a b) = false) (hsz : Maps.size D + 1 = s'.length) (hk : ∀ j, keyF s' j = if j = i then (a, b) else ks j) : KeysOk s' (D.put (kl a b) (.lit (.int .i64 (i : Int)))) where
  wf j hj := by
    rw [hk]
    by_cases e : j = i
    · rw [if_pos e]; exact ⟨ha, hb⟩
    · rw [if_neg e]; exact hwf j hj e
  has j hj := by
    rw [hk]
    by_cases e : j = i
    · subst e
      rw [if_pos rfl]
      exact ⟨Maps.has_put_same ht.isMap (kl_key ha hb) _, Maps.atKey_put_same ht.isMap (kl_key ha hb) _ _⟩
    · rw [if_neg e]
      have h1 := hhas j hj e
      have hne : kl (ks j).1 (ks j).2 ≠ kl a b := by
        intro e'
        rw [e', hno] at h1
        exact absurd h1.1 (by simp)
      rw [Maps.has_put_other hne, Maps.atKey_put_other hne]
      exact h1
  only a' b' ha' hb' hh := by
    by_cases e : kl a' b' = kl a b
    · obtain ⟨e1, e2⟩ := kl_inj ha' hb' ha hb e
      exact ⟨i, hi, by rw [hk, if_pos rfl, e1, e2]⟩
    · rw [Maps.has_put_other e] at hh
      obtain ⟨j, hj, hji, hj2⟩ := honly a' b' ha' hb' hh
      exact ⟨j, hj, by rw [hk, if_neg hji]; exact hj2⟩
  inj x y hx hy hxy := by
    rw [hk, hk] at hxy
    have hni : ∀ z, z < s'.length → z ≠ i → ks z ≠ (a, b) := by
      intro z hz hzi e
      have := (hhas z hz hzi).1
      rw [e, hno] at this
      simp at this
    by_cases ex : x = i
    · by_cases ey : y = i
      · rw [ex, ey]
      · rw [if_pos ex, if_neg ey] at hxy
        exact absurd hxy.symm (hni y hy ey)
    · by_cases ey : y = i
      · rw [if_neg ex, if_pos ey] at hxy
        exact absurd hxy (hni x hx ex)
      · rw [if_neg ex, if_neg ey] at hxy
        exact hinj x y hx hy ex ey hxy
  size := by
    rw [Maps.size_put ht, hno]
    simpa using hsz
theorem KeysOk.none {seats : List Seat} {D : DataW Unit} (h : KeysOk seats D) {a b : Int} (ha : W64 a) (hb : W64 b) (hn : ∀ i, i < seats.length → keyF seats i ≠ (a, b)) : Maps.has D (kl a b) = false := by
  cases e : Maps.has D (kl a b) with
  | false => rfl
  | true =>
    obtain ⟨i, hi, e'⟩ := h.only a b ha hb e
    exact absurd e' (hn i hi)
/-- A row of seats grown by one. -/
theorem LruM.grow {x : Seat} {v1 : Value} (h : LruM w lb base k sv mb seats newest oldest D) (hg : w.grownBy w' sv.ownBlock) (ho : SeatsM w' base v1 (seats ++ [x])) : LruM (w'.setCell ⟨lb, 1, none⟩ v1) lb base k v1 mb (seats ++ [x]) newest oldest D := by
  have hb : w'.heap[lb]? = some (.cells #[.int .i64 k, sv, .map (some mb), .int .i64 newest, .int .i64 oldest] 150 (0, 0)) := (hg.block lb (blk_lt h.blk) (fun e => h.mbl.2.2 e.symm)).trans h.blk
  refine ⟨set_blk hb 1 _, ho.heap (fun b hb' => Below.heap_setCell _ _ _ _ ?_), h.map.heap ((Below.heap_setCell _ _ _ _ h.mbl.1).trans (hg.block mb h.map.lt (fun e => h.mbl.2.1 e.symm))), h.lbB, h.mbB⟩
  rintro rfl
  obtain ⟨_, _, cs, hc⟩ := ho.lt hb'
  rw [hb] at hc
  simp at hc
set_option maxRecDepth 100000 in
set_option maxHeartbeats 4000000 in
theorem use_fresh (h : LruOk w lb base k sv mb seats newest oldest D ord) {a b : Int} (ha : W64 a) (hb : W64 b) (hn : ∀ i, i < seats.length → keyF seats i ≠ (a, b)) (hk : (seats.length : Int) < k) (hsm : seats.length ≤ 1000000) :
    Calls Try.prog 98 #[.pointer (some ⟨lb, 0, none⟩), .int .i64 a, .int .i64 b] w fun e w' => e = .returned (.tuple #[.int .i64 seats.length, .bool false, .bool false]) ∧ ∃ sv' seats' nw' od' D', LruOk w' lb base k sv' mb seats' nw' od' D' (seats.length :: ord) ∧ seats'.length = seats.length + 1 ∧ (∀ j, keyF seats' j = if j = seats.length then (a, b) else keyF seats j) ∧ Chg (LruS lb mb sv) w w' ∧ ∀ c, LruS lb mb sv' c → LruS lb mb sv c ∨ w.heap.size ≤ c := by
  obtain ⟨c0, c1, c2, c3, c4⟩ := h.m.cells
  have HM := Aside0.mk h
  have HSM := Aside0.mk hsm
  have HWF := Aside0.mk (And.intro ha hb)
  have HNO := Aside0.mk (h.keys.none ha hb hn)
  have dk : decide ((seats.length : Int) < k) = true := decide_eq_true hk
  have HK := Aside0.mk hk
  clear h ha hb hn hsm
  go_enter Try.func98, Try.ntmps98
  go_upto_region 4 with (fail)
  obtain ⟨gk, hgk⟩ : ∃ gk, gk = w.heap.size := ⟨_, rfl⟩
  obtain ⟨w1, hw1⟩ : ∃ w1, w1 = w.alloc (.cells #[.int .i64 a, .int .i64 b] keyT) := ⟨_, rfl⟩
  rw [← hw1, ← hgk]
  have hK1 : w1.heap[gk]? = some (.cells #[.int .i64 a, .int .i64 b] keyT (0, 0)) := by rw [hw1, hgk]; exact heap_alloc_new _ _
  have HM1 : Aside0 (LruM w1 lb base k sv mb seats newest oldest D) := ⟨by rw [hw1]; exact HM.out.m.alloc _⟩
  have HC1 : Aside0 (Chg (LruS lb mb sv) w w1) := ⟨by rw [hw1]; exact (Chg.refl _ _).alloc _⟩
  have HGK : Aside0 (¬ LruS lb mb sv gk) := ⟨by
    rw [hgk]
    rintro (e | e | e)
    · have := blk_lt HM.out.m.blk; omega
    · have := HM.out.m.map.lt; omega
    · have := (HM.out.m.seats.lt e).2.1; omega⟩
  have hlook := HM1.out.map.look_miss HWF.out.1 HWF.out.2 HNO.out
  have HK1 := Aside0.mk hK1
  have k0 := cell_blk (j := 0) (u := .int .i64 a) hK1 rfl
  have k1 := cell_blk (j := 1) (u := .int .i64 b) hK1 rfl
  clear hw1 hgk hK1 c0 c1 c2 c3 c4
  obtain ⟨c0, c1, c2, c3, c4⟩ := HM1.out.cells
  obtain ⟨Asv, csv, hsv⟩ := HM1.out.seats.slice
  have HSV := Aside0.mk hsv
  rw [hsv] at c1
  clear hsv
  go_quiet (fail)
  clear hlook
  have HM2 := Aside0.mk (HM1.out.drewN nq)
  have HC2 : Aside0 (Chg (LruS lb mb sv) w (w1.drewN nq)) := ⟨HC1.out.trans (Chg.of_below (pw_below_drewN (Below.refl _ _) nq) _)⟩
  have HK2 : Aside0 ((w1.drewN nq).heap[gk]? = some (.cells #[.int .i64 a, .int .i64 b] keyT (0, 0))) := ⟨by rw [drewN_heap']; exact HK1.out⟩
  generalize w1.drewN nq = w2 at *
  clear c0 c1 c2 c3 c4 k0 k1 HM1 HC1 HK1
  obtain ⟨c0, c1, c2, c3, c4⟩ := HM2.out.cells
  rw [HSV.out] at c1
  go_upto_region 11 with (fail)
  go_quiet (fail)
  have HM3 := Aside0.mk (HM2.out.drewN nq)
  have HC3 : Aside0 (Chg (LruS lb mb sv) w (w2.drewN nq)) := ⟨HC2.out.trans (Chg.of_below (pw_below_drewN (Below.refl _ _) nq) _)⟩
  have HK3 : Aside0 ((w2.drewN nq).heap[gk]? = some (.cells #[.int .i64 a, .int .i64 b] keyT (0, 0))) := ⟨by rw [drewN_heap']; exact HK2.out⟩
  generalize w2.drewN nq = w3 at *
  clear c0 c1 c2 c3 c4 HM2 HC2 HK2
  obtain ⟨c0, c1, c2, c3, c4⟩ := HM3.out.cells
  rw [HSV.out] at c1
  go_upto_region 13 with (fail)
  have k0 := cell_blk (j := 0) (u := .int .i64 a) HK3.out rfl
  have k1 := cell_blk (j := 1) (u := .int .i64 b) HK3.out rfl
  have f1 := free_blk HM3.out.blk 1
  clear c0 c2 c3 c4
  have hn1 : ∀ o_, (w3.alloc o_).cell? ⟨lb, 1, none⟩ = some (.slice Asv seats.length csv) := fun o_ => pw_cell_below (below_alloc (Below.refl _ _) o_) c1
  have hn2 : ∀ o_, (w3.alloc o_).cell? ⟨gk, 0, none⟩ = some (.int .i64 a) := fun o_ => pw_cell_below (below_alloc (Below.refl _ _) o_) k0
  have hn3 : ∀ o_, (w3.alloc o_).cell? ⟨gk, 1, none⟩ = some (.int .i64 b) := fun o_ => pw_cell_below (below_alloc (Below.refl _ _) o_) k1
  go_region_law ((rw [show ∀ o_, (w3.alloc o_).drew = w3.drew.alloc o_ from fun _ => rfl]; refine step_append_cells (w0 := w3) base (by rfl) (.tmp 76) (.tmp 79) 147 153 (.agg #[.int .i64 0, .int .i64 0, .int .i64 0, .int .i64 0]) 4 32 (by rfl) Try.underlying147 infoSeat rfl (by decide) (by decide) sv seats.length (seats.flatMap encE) [.int .i64 a, .int .i64 b, .int .i64 0, .int .i64 0] ?aS ?aX rfl (by simp [Value.oneCell']) ?aO ?aB ?aZ ?aL ?_; (case aS => rw [HSV.out]; rfl); (case aX => rfl); (case aO => exact HM3.out.drew.seats.owns); (case aB => exact below_drew1 (Below.refl _ _)); (case aZ => exact Nat.le_of_lt (Nat.lt_of_le_of_lt HM3.out.lbB (blk_lt HM3.out.blk))); (case aL => have := HSM.out; omega); intro v4 w4 ho hb hg hat; have ho' : SeatsM w4 base v4 (seats ++ [⟨a, b, 0, 0⟩]) := snoc_owns ho rfl; obtain ⟨A4, n4, e4⟩ := ho'.slice; subst e4; have HO4 := Aside0.mk ho'; clear ho'; have HG4 := Aside0.mk hg; have HA4 := Aside0.mk hat; clear ho hb hg hat; have hb4 := (HG4.out.block lb (blk_lt HM3.out.blk) (fun e => HM3.out.mbl.2.2 e.symm)).trans HM3.out.blk; have f4 := free_blk hb4 1; have c14 := cell_blk (j := 1) (u := sv) hb4 rfl; clear hb4))
  all_goals
    obtain ⟨v5, hv5⟩ : ∃ v5, v5 = Value.slice A4 (seats.length + 1) n4 := ⟨_, rfl⟩
    have e5 : Value.slice A4 (seats ++ [(⟨a, b, 0, 0⟩ : Seat)]).length n4 = v5 := by rw [hv5]; simp
    have HA5 : Aside0 (v5.ownBlock = sv.ownBlock ∨ ∃ b, v5.ownBlock = some b ∧ w3.heap.size ≤ b) := ⟨by rw [← e5]; exact HA4.out⟩
    obtain ⟨w5, hw5⟩ : ∃ w5, w5 = w4.setCell ⟨lb, 1, none⟩ (.slice A4 (seats.length + 1) n4) := ⟨_, rfl⟩
    rw [← hw5]
    obtain ⟨s5, hs5⟩ : ∃ s5, s5 = seats ++ [(⟨a, b, 0, 0⟩ : Seat)] := ⟨_, rfl⟩
    have hM5 : LruM w5 lb base k v5 mb s5 newest oldest D := by
      have h_ := HM3.out.drew.grow HG4.out HO4.out
      rw [e5] at h_
      rw [hw5, hs5, ← hv5]
      exact h_
    have hl5 : s5.length = seats.length + 1 := by rw [hs5]; simp
    have hk5 : ∀ j, keyF s5 j = if j = seats.length then (a, b) else keyF seats j := fun j => by rw [hs5]; exact keyF_snoc _ _ _
    have hn5 : ∀ j, j < seats.length → nwF s5 j = nwF seats j ∧ odF s5 j = odF seats j := fun j hj => by rw [hs5]; exact nwF_snoc _ _ hj
    have hC5 : Chg (LruS lb mb sv) w w5 := by
      rw [hw5]
      exact (HC3.out.drew.then_ (Chg.of_grown HG4.out (S := LruS lb mb sv) (fun k hk => .inr (.inr hk))) (fun _ h => .inl h)).set_ (.inl (.inl rfl)) _
    have hO5 : ∀ c, LruS lb mb v5 c → LruS lb mb sv c ∨ w.heap.size ≤ c := by
      rintro c (e | e | e)
      · exact .inl (.inl e)
      · exact .inl (.inr (.inl e))
      · rcases HA5.out with h | ⟨b', h, hle⟩
        · refine .inl (.inr (.inr ?_))
          rw [← h, ← e]
        · right
          have e2 : some b' = some c := by rw [← h, ← e]
          injection e2 with e2
          have := HC3.out.size
          have hle' : w3.heap.size ≤ b' := hle
          omega
    have hK5 : w5.heap[gk]? = some (.cells #[.int .i64 a, .int .i64 b] keyT (0, 0)) := by
      rw [hw5]
      refine (Below.heap_setCell _ _ _ _ (fun e => HGK.out (.inl e))).trans ((HG4.out.block gk (blk_lt HK3.out) (fun e => HGK.out (.inr (.inr e.symm)))).trans HK3.out)
    have HM5 := Aside0.mk hM5
    have HL5 := Aside0.mk hl5
    have HK5 := Aside0.mk hk5
    have HN5 := Aside0.mk hn5
    have HC5 := Aside0.mk hC5
    have HO5 := Aside0.mk hO5
    have HKB := Aside0.mk hK5
    clear e5 hv5 hw5 hs5 hM5 hl5 hk5 hn5 hC5 hO5 hK5 hn1 hn2 hn3 c1 k0 k1 f1 c14 f4 HO4 HG4 HA4 HM3 HC3 HK3
    go_upto_region 14 with (fail)
    obtain ⟨c0, c1, c2, c3, c4⟩ := HM5.out.cells
    have k0 := cell_blk (j := 0) (u := .int .i64 a) HKB.out rfl
    have k1 := cell_blk (j := 1) (u := .int .i64 b) HKB.out rfl
    obtain ⟨w6, hst, hmo, hgr⟩ := MapO.store (w := w5.drew) HM5.out.drew.map (by rw [HM.out.keys.size]; have := HSM.out; unfold maxLen; omega) HWF.out.1 HWF.out.2 (seats.length : Int) ⟨by omega, by have := HSM.out; omega⟩
    have HM6 := Aside0.mk (HM5.out.drew.mapTurn hgr hmo)
    have HG6 := Aside0.mk hgr
    have HK6 : Aside0 (w6.heap[gk]? = some (.cells #[.int .i64 a, .int .i64 b] keyT (0, 0))) := ⟨(hgr.block gk (blk_lt HKB.out) (fun e => HGK.out (.inr (.inl (by injection e))))).trans HKB.out⟩
    clear hmo hgr
    have q2 := HM6.out.cells.2.2.1
    have q0 := cell_blk (j := 0) (u := .int .i64 a) HK6.out rfl
    have q1 := cell_blk (j := 1) (u := .int .i64 b) HK6.out rfl
    go_region_held3 (fun w' => w'.cell? ⟨lb, 2, none⟩ = some (.map (some mb)) ∧ w'.cell? ⟨gk, 0, none⟩ = some (.int .i64 a) ∧ w'.cell? ⟨gk, 1, none⟩ = some (.int .i64 b)) (first | exact ⟨c2, k0, k1⟩ | exact ⟨q2, q0, q1⟩ | go_keep) (fail)
    clear hst c0 c1 c2 c3 c4 k0 k1 q0 q1 q2
    have hL5 : Linked (nwF s5) (odF s5) newest oldest ord := HM.out.link.congr (fun x hx => (HN5.out x ((HM.out.all x).1 hx)).1) (fun x hx => (HN5.out x ((HM.out.all x).1 hx)).2)
    have HLK := Aside0.mk hL5
    have hni : seats.length ∉ ord := fun h => Nat.lt_irrefl _ ((HM.out.all _).1 h)
    have hr5 := head_room hL5.head hni (n := s5.length) (fun x hx => by rw [HL5.out]; have := (HM.out.all x).1 hx; omega)
    have HR5 := Aside0.mk hr5
    have HNI := Aside0.mk hni
    clear hL5 hni hr5
    go_wp2_with (go_at_call 120; refine (link_calls HM6.out seats.length (by rw [HL5.out]; omega) HR5.out).mono ?_; rintro e w7 ⟨rfl, s7, nw7, od7, hm7, hu7, hc7⟩; have HM7 := Aside0.mk hm7; have HU7 := Aside0.mk hu7; have HC7 := Aside0.mk hc7; clear hm7 hu7 hc7)
    go_ret3
    have hlen : s7.length = seats.length + 1 := HU7.out.len.trans HL5.out
    have hkey : ∀ j, keyF s7 j = if j = seats.length then (a, b) else keyF seats j := fun j => by rw [HU7.out.key]; exact HK5.out j
    refine ⟨rfl, v5, s7, nw7, od7, _, ⟨HM7.out, HU7.out.linked HLK.out HNI.out, fun x => ?_, ?_, HM.out.k1, by rw [hlen]; have := HK.out; omega⟩, hlen, hkey, ?_, HO5.out⟩
    · rw [hlen, List.mem_cons, HM.out.all x]
      omega
    · refine KeysOk.put_new (ks := keyF seats) (n := seats.length) (HM.out.m.map.tidy lruLaw) HWF.out.1 HWF.out.2 (by omega) (fun j hj hji => HM.out.keys.wf j (by omega)) (fun j hj hji => HM.out.keys.has j (by omega)) (fun a' b' ha hb hh => ?_) (fun x y hx hy hxi hyi hxy => HM.out.keys.inj x y (by omega) (by omega) hxy) HNO.out (by rw [HM.out.keys.size, hlen]) hkey
      obtain ⟨j, hj, he⟩ := HM.out.keys.only a' b' ha hb hh
      exact ⟨j, by omega, by omega, he⟩
    · exact (HC5.out.drew.then_ (Chg.of_grown HG6.out (S := LruS lb mb sv) (fun k hk => .inr (.inl (by injection hk with hk; exact hk.symm)))) (fun _ h => .inl h)).then_ HC7.out HO5.out
end Go.Proofs.Ytgcfcemgeppkmaa.P
namespace Go.Proofs.Ytgcfcemgeppkmaa.P
open Go.RowKit Go.Proofs.YtgcfcemgeppkmaaW.PrintWords Go.Proofs.YtgcfcemgeppkmaaW.PrintLast Go.Proofs.YtgcfcemgeppkmaaW.PrintMore
open Go.Proofs.Ytgcfcemgeppkmaa.Ord
set_option linter.unusedVariables false
set_option linter.unusedSimpArgs false
variable {w w' : World} {lb base : Nat} {k : Int} {sv : Value} {mb : Nat} {seats : List Seat} {newest oldest : Int} {D : DataW Unit} {ord : List Nat}
theorem set_key {l : List Seat} {i : Nat} (h : i < l.length) (a b : Int) : ∃ t, t = (l.set i { l[i] with ka := a }).set i { (l.set i { l[i] with ka := a })[i]'(by simpa using h) with kb := b } ∧ t.length = l.length ∧ nwF t = nwF l ∧ odF t = odF l ∧ ∀ j, keyF t j = if j = i then (a, b) else keyF l j := by
  refine ⟨_, rfl, by simp, funext fun x => ?_, funext fun x => ?_, fun j => ?_⟩
  · simp only [nwF, List.getD_eq_getElem?_getD, List.getElem?_set, List.length_set]
    by_cases e : i = x
    · subst e; simp [h]
    · rw [if_neg e, if_neg e]
  · simp only [odF, List.getD_eq_getElem?_getD, List.getElem?_set, List.length_set]
    by_cases e : i = x
    · subst e; simp [h]
    · rw [if_neg e, if_neg e]
  · simp only [keyF, List.getD_eq_getElem?_getD, List.getElem?_set, List.length_set]
    by_cases e : i = j
    · subst e; simp [h]
    · rw [if_neg e, if_neg e, if_neg (fun h => e h.symm)]
set_option maxRecDepth 100000 in
set_option maxHeartbeats 4000000 in
theorem use_evict (h : LruOk w lb base k sv mb seats newest oldest D ord) {a b : Int} (ha : W64 a) (hb : W64 b) (hn : ∀ i, i < seats.length → keyF seats i ≠ (a, b)) (hk : ¬ (seats.length : Int) < k) (hsm : seats.length ≤ 1000000) :
    Calls Try.prog 98 #[.pointer (some ⟨lb, 0, none⟩), .int .i64 a, .int .i64 b] w fun e w' => ∃ slot : Nat, (slot : Int) = lastI ord ∧ slot < seats.length ∧ e = .returned (.tuple #[.int .i64 slot, .bool false, .bool true]) ∧ ∃ seats' nw' od' D', LruOk w' lb base k sv mb seats' nw' od' D' (slot :: ord.erase slot) ∧ seats'.length = seats.length ∧ (∀ j, keyF seats' j = if j = slot then (a, b) else keyF seats j) ∧ Chg (LruS lb mb sv) w w' := by
  obtain ⟨c0, c1, c2, c3, c4⟩ := h.m.cells
  obtain ⟨slot, hso, hsl⟩ : ∃ slot : Nat, oldest = (slot : Int) ∧ slot ∈ ord := by
    rcases lastI_cases ord with ⟨_, e⟩ | ⟨x, hx, e⟩
    · have h0 : 0 ∈ ord := (h.all 0).2 (by have := h.k1; omega)
      rw [e] at h0
      simp at h0
    · exact ⟨x, h.link.last.trans e, hx⟩
  have hlast : (slot : Int) = lastI ord := hso.symm.trans h.link.last
  have hsl2 : slot < seats.length := (h.all slot).1 hsl
  subst hso
  have HM := Aside0.mk h
  have HSM := Aside0.mk hsm
  have HWF := Aside0.mk (And.intro ha hb)
  have HNO := Aside0.mk (h.keys.none ha hb hn)
  have dk : decide ((seats.length : Int) < k) = false := decide_eq_false hk
  have HK := Aside0.mk hk
  have HLA := Aside0.mk hlast
  have HSL := Aside0.mk hsl
  clear h ha hb hn hsm hlast hsl hk
  go_enter Try.func98, Try.ntmps98
  go_upto_region 4 with (fail)
  obtain ⟨gk, hgk⟩ : ∃ gk, gk = w.heap.size := ⟨_, rfl⟩
  obtain ⟨w1, hw1⟩ : ∃ w1, w1 = w.alloc (.cells #[.int .i64 a, .int .i64 b] keyT) := ⟨_, rfl⟩
  rw [← hw1, ← hgk]
  have hK1 : w1.heap[gk]? = some (.cells #[.int .i64 a, .int .i64 b] keyT (0, 0)) := by rw [hw1, hgk]; exact heap_alloc_new _ _
  have HM1 : Aside0 (LruM w1 lb base k sv mb seats newest slot D) := ⟨by rw [hw1]; exact HM.out.m.alloc _⟩
  have HC1 : Aside0 (Chg (LruS lb mb sv) w w1) := ⟨by rw [hw1]; exact (Chg.refl _ _).alloc _⟩
  have HGK : Aside0 (¬ LruS lb mb sv gk) := ⟨by
    rw [hgk]
    rintro (e | e | e)
    · have := blk_lt HM.out.m.blk; omega
    · have := HM.out.m.map.lt; omega
    · have := (HM.out.m.seats.lt e).2.1; omega⟩
  have hlook := HM1.out.map.look_miss HWF.out.1 HWF.out.2 HNO.out
  have HK1 := Aside0.mk hK1
  have k0 := cell_blk (j := 0) (u := .int .i64 a) hK1 rfl
  have k1 := cell_blk (j := 1) (u := .int .i64 b) hK1 rfl
  clear hw1 hgk hK1 c0 c1 c2 c3 c4
  obtain ⟨c0, c1, c2, c3, c4⟩ := HM1.out.cells
  obtain ⟨Asv, csv, hsv⟩ := HM1.out.seats.slice
  have HSV := Aside0.mk hsv
  rw [hsv] at c1
  clear hsv
  go_quiet (fail)
  clear hlook
  have HM2 := Aside0.mk (HM1.out.drewN nq)
  have HC2 : Aside0 (Chg (LruS lb mb sv) w (w1.drewN nq)) := ⟨HC1.out.trans (Chg.of_below (pw_below_drewN (Below.refl _ _) nq) _)⟩
  have HK2 : Aside0 ((w1.drewN nq).heap[gk]? = some (.cells #[.int .i64 a, .int .i64 b] keyT (0, 0))) := ⟨by rw [drewN_heap']; exact HK1.out⟩
  generalize w1.drewN nq = w2 at *
  clear c0 c1 c2 c3 c4 k0 k1 HM1 HC1 HK1
  obtain ⟨c0, c1, c2, c3, c4⟩ := HM2.out.cells
  rw [HSV.out] at c1
  go_upto_region 11 with (fail)
  go_quiet (fail)
  have HM3 := Aside0.mk (HM2.out.drewN nq)
  have HC3 : Aside0 (Chg (LruS lb mb sv) w (w2.drewN nq)) := ⟨HC2.out.trans (Chg.of_below (pw_below_drewN (Below.refl _ _) nq) _)⟩
  have HK3 : Aside0 ((w2.drewN nq).heap[gk]? = some (.cells #[.int .i64 a, .int .i64 b] keyT (0, 0))) := ⟨by rw [drewN_heap']; exact HK2.out⟩
  generalize w2.drewN nq = w3 at *
  clear c0 c1 c2 c3 c4 HM2 HC2 HK2
  obtain ⟨c0, c1, c2, c3, c4⟩ := HM3.out.cells
  rw [HSV.out] at c1
  go_upto_region 7 with (go_at_call 119; refine (unlink_calls HM3.out slot hsl2 (HM.out.prev hsl2) (HM.out.next hsl2)).mono ?_; rintro e w4 ⟨rfl, s4, nw4, od4, hm4, hu4, hc4⟩; have HM4 := Aside0.mk hm4; have HU4 := Aside0.mk hu4; have HC4 := Aside0.mk (HC3.out.trans hc4); have HK4 := Aside0.mk (hc4.blk HK3.out HGK.out); clear hm4 hu4 hc4 c0 c1 c2 c3 c4)
  have hl4 : slot < s4.length := by rw [HU4.out.len]; exact hsl2
  obtain ⟨g, cap, e4, hrow, p0, p1, p2, p3, pf⟩ := HM4.out.seats.cells hl4
  have hk4 : (s4[slot].ka, s4[slot].kb) = keyF seats slot := by rw [← keyF_at hl4, HU4.out.key]
  obtain ⟨a0, ha0⟩ : ∃ a0, a0 = s4[slot].ka := ⟨_, rfl⟩
  obtain ⟨b0, hb0⟩ : ∃ b0, b0 = s4[slot].kb := ⟨_, rfl⟩
  rw [← ha0, ← hb0] at hk4
  rw [← ha0] at p0
  rw [← hb0] at p1
  have hwf := HM.out.keys.wf slot hsl2
  have hhas := (HM.out.keys.has slot hsl2).1
  rw [← hk4] at hwf hhas
  obtain ⟨c0, c1, c2, c3, c4⟩ := HM4.out.cells
  rw [e4] at c1
  have HE4 := Aside0.mk e4
  have HK04 := Aside0.mk hk4
  have HH0 := Aside0.mk hhas
  have HWF0 := Aside0.mk hwf
  have hsi : (slot : Int) < (s4.length : Int) := by omega
  dsimp only at hwf hhas
  have HA0 := Aside0.mk (And.intro ha0 hb0)
  clear ha0 hb0
  obtain ⟨w5, hdel, hmo, hgr⟩ := MapO.drop (w := w4.drew) HM4.out.drew.map hwf.1 hwf.2 0
  have HM5 := Aside0.mk (HM4.out.drew.mapTurn hgr hmo)
  have HG5 := Aside0.mk hgr
  have HK5 : Aside0 (w5.heap[gk]? = some (.cells #[.int .i64 a, .int .i64 b] keyT (0, 0))) := ⟨(hgr.block gk (blk_lt HK4.out) (fun e => HGK.out (.inr (.inl (by injection e))))).trans HK4.out⟩
  have HMB : mb ≠ g := fun e => HM4.out.mbl.2.1 (by rw [HE4.out, e]; rfl)
  have hg5 : w5.heap[g]? = w4.heap[g]? := hgr.block g ((HM4.out.seats.lt (b := g) (by rw [HE4.out]; rfl)).2.1) (fun e => HMB (by injection e with e; exact e.symm))
  have HG5B := Aside0.mk hg5
  have hc5 : ∀ o, w5.cell? ⟨g, o, none⟩ = w4.cell? ⟨g, o, none⟩ := fun o => by unfold World.cell?; rw [hg5]
  have q0 := (hc5 _).trans p0
  have q1 := (hc5 _).trans p1
  obtain ⟨_, d1, d2, _, _⟩ := HM5.out.cells
  rw [HE4.out] at d1
  clear hmo hgr hc5 hg5 HMB hrow p2 p3 hk4 e4 hwf hhas
  go_region_held3 (fun w' => w'.cell? ⟨lb, 1, none⟩ = some (.slice (some ⟨g, 0, none⟩) s4.length cap) ∧ w'.cell? ⟨lb, 2, none⟩ = some (.map (some mb)) ∧ w'.cell? ⟨g, slot * 4, none⟩ = some (.int .i64 a0) ∧ w'.cell? ⟨g, slot * 4 + 1, none⟩ = some (.int .i64 b0)) (first | exact ⟨c1, c2, p0, p1⟩ | exact ⟨d1, d2, q0, q1⟩ | go_keep) (fail)
  clear hdel
  clear c0 c1 c2 c3 c4 d1 d2 p0 p1
  have HNG : Aside0 (lb ≠ g ∧ gk ≠ g) := ⟨⟨fun e => HM4.out.mbl.2.2 (by rw [HE4.out, e]; rfl), fun e => HGK.out (by rw [e]; have := HU4.out; exact .inr (.inr (by rw [HE4.out]; rfl)))⟩⟩
  obtain ⟨c0, c1, c2, c3, c4⟩ := HM5.out.cells
  rw [HE4.out] at c1
  have k0 := cell_blk (j := 0) (u := .int .i64 a) HK5.out rfl
  have k1 := cell_blk (j := 1) (u := .int .i64 b) HK5.out rfl
  have pf5 : ∀ o, w5.frozen? ⟨g, o, none⟩ = false := fun o => by have := pf o; unfold World.frozen? at this ⊢; rw [HG5B.out]; exact this
  have pf50 := pf5 (slot * 4)
  have pf51 := pf5 (slot * 4 + 1)
  clear pf pf5
  go_upto_region 8 with (fail)
  go_region_held3 (fun w' => w'.cell? ⟨lb, 1, none⟩ = some (.slice (some ⟨g, 0, none⟩) s4.length cap) ∧ w'.cell? ⟨gk, 0, none⟩ = some (.int .i64 a) ∧ w'.cell? ⟨gk, 1, none⟩ = some (.int .i64 b)) (first | exact ⟨c1, k0, k1⟩ | exact ⟨(cfar HNG.out.1 _).trans ((cfar (w := w5) HNG.out.1 _).trans c1), (cfar HNG.out.2 _).trans ((cfar (w := w5) HNG.out.2 _).trans k0), (cfar HNG.out.2 _).trans ((cfar (w := w5) HNG.out.2 _).trans k1)⟩ | go_keep) (fail)
  go_upto_region 14 with (fail)
  obtain ⟨w6, hw6⟩ : ∃ w6, w6 = ((w5.setCell ⟨g, slot * 4, none⟩ (.int .i64 a)).setCell ⟨g, slot * 4 + 1, none⟩ (.int .i64 b)).drew := ⟨_, rfl⟩
  rw [← hw6]
  obtain ⟨t6, ht6, hl6, hn6, ho6, hk6⟩ := set_key hl4 a b
  obtain ⟨D5, hD5⟩ : ∃ D5, D5 = D.del (kl a0 b0) := ⟨_, rfl⟩
  have hM5 := HM5.out
  rw [← hD5] at hM5
  have hM6a : LruM (w5.setCell ⟨g, slot * 4, none⟩ (.int .i64 a)) lb base k sv mb (s4.set slot { s4[slot] with ka := a }) nw4 od4 D5 := hM5.setSeat (c := 0) HE4.out hl4 (by omega) _ _ rfl
  have hM6 : LruM w6 lb base k sv mb t6 nw4 od4 D5 := by
    rw [hw6, ht6]
    exact (hM6a.setSeat (cap := cap) (by rw [List.length_set]; exact HE4.out) (by simpa using hl4) (c := 1) (by omega) (.int .i64 b) { (s4.set slot { s4[slot] with ka := a })[slot]'(by simpa using hl4) with kb := b } rfl).drew
  have hC6 : Chg (LruS lb mb sv) w w6 := by
    rw [hw6]
    exact (((HC4.out.drew.then_ (Chg.of_grown HG5.out (S := LruS lb mb sv) (fun k hk => .inr (.inl (by injection hk with hk; exact hk.symm)))) (fun _ h => .inl h)).set_ (.inl (.inr (.inr (by rw [HE4.out]; rfl)))) _).set_ (.inl (.inr (.inr (by rw [HE4.out]; rfl)))) _).drew
  have hK6 : w6.heap[gk]? = some (.cells #[.int .i64 a, .int .i64 b] keyT (0, 0)) := by
    rw [hw6]
    exact (Below.heap_setCell _ _ _ _ HNG.out.2).trans ((Below.heap_setCell _ _ _ _ HNG.out.2).trans HK5.out)
  have hlen6 : t6.length = seats.length := hl6.trans HU4.out.len
  have hsz5 : Maps.size D5 + 1 = seats.length := by
    have := Maps.size_del (k := kl a0 b0) (HM.out.m.map.tidy lruLaw)
    rw [HH0.out, if_pos rfl, HM.out.keys.size] at this
    rw [hD5]; exact this
  have hka : ∀ j, keyF t6 j = if j = slot then (a, b) else keyF seats j := fun j => by rw [hk6, HU4.out.key]
  have hkeys : KeysOk t6 (D5.put (kl a b) (.lit (.int .i64 (slot : Int)))) := by
    rw [hD5]
    have hne : ∀ j, j < seats.length → j ≠ slot → kl (keyF seats j).1 (keyF seats j).2 ≠ kl a0 b0 := fun j hj hji e => by
      have hw1 := HM.out.keys.wf j hj
      obtain ⟨e1, e2⟩ := kl_inj hw1.1 hw1.2 HWF0.out.1 HWF0.out.2 e
      exact hji (HM.out.keys.inj j slot hj hsl2 (by rw [← HK04.out]; exact Prod.ext e1 e2))
    refine KeysOk.put_new (ks := keyF seats) (n := seats.length) ((HM.out.m.map.tidy lruLaw).del _) HWF.out.1 HWF.out.2 (by omega) (fun j hj hji => HM.out.keys.wf j (by omega)) (fun j hj hji => ?_) (fun a' b' ha hb hh => ?_) (fun x y hx hy hxi hyi hxy => HM.out.keys.inj x y (by omega) (by omega) hxy) ?_ (by rw [← hD5, hsz5, hlen6]) hka
    · have := hne j (by omega) hji
      rw [Maps.has_del_other this, Maps.atKey_del_other this]
      exact HM.out.keys.has j (by omega)
    · have hne2 : kl a' b' ≠ kl a0 b0 := by
        intro e
        rw [e, Maps.has_del_same] at hh
        exact absurd hh (by simp)
      rw [Maps.has_del_other hne2] at hh
      obtain ⟨j, hj, he⟩ := HM.out.keys.only a' b' ha hb hh
      refine ⟨j, by omega, ?_, he⟩
      rintro rfl
      rw [← HK04.out] at he
      injection he with e1 e2
      exact hne2 (by rw [e1, e2])
    · by_cases e : kl a b = kl a0 b0
      · rw [e]; exact Maps.has_del_same
      · rw [Maps.has_del_other e]; exact HNO.out
  have HM6 := Aside0.mk hM6
  have HC6 := Aside0.mk hC6
  have HK6 := Aside0.mk hK6
  have HL6 := Aside0.mk hlen6
  have HSZ := Aside0.mk hsz5
  have HKA := Aside0.mk hka
  have HKY := Aside0.mk hkeys
  have HN6 := Aside0.mk (And.intro hn6 ho6)
  clear hw6 ht6 hl6 hn6 ho6 hk6 hD5 hM5 hM6a hM6 hC6 hK6 hlen6 hsz5 hka hkeys c0 c1 c2 c3 c4 k0 k1 pf50 pf51 q0 q1
  obtain ⟨c0, c1, c2, c3, c4⟩ := HM6.out.cells
  have k0 := cell_blk (j := 0) (u := .int .i64 a) HK6.out rfl
  have k1 := cell_blk (j := 1) (u := .int .i64 b) HK6.out rfl
  obtain ⟨w7, hst, hmo, hgr⟩ := MapO.store (w := w6.drew) HM6.out.drew.map (by have := HSZ.out; have := HSM.out; unfold maxLen; omega) HWF.out.1 HWF.out.2 (slot : Int) ⟨by omega, by have := HSM.out; omega⟩
  have HM7 := Aside0.mk (HM6.out.drew.mapTurn hgr hmo)
  have HG7 := Aside0.mk hgr
  have HK7 : Aside0 (w7.heap[gk]? = some (.cells #[.int .i64 a, .int .i64 b] keyT (0, 0))) := ⟨(hgr.block gk (blk_lt HK6.out) (fun e => HGK.out (.inr (.inl (by injection e))))).trans HK6.out⟩
  clear hmo hgr
  have q2 := HM7.out.cells.2.2.1
  have q0 := cell_blk (j := 0) (u := .int .i64 a) HK7.out rfl
  have q1 := cell_blk (j := 1) (u := .int .i64 b) HK7.out rfl
  go_region_held3 (fun w' => w'.cell? ⟨lb, 2, none⟩ = some (.map (some mb)) ∧ w'.cell? ⟨gk, 0, none⟩ = some (.int .i64 a) ∧ w'.cell? ⟨gk, 1, none⟩ = some (.int .i64 b)) (first | exact ⟨c2, k0, k1⟩ | exact ⟨q2, q0, q1⟩ | go_keep) (fail)
  clear hst c0 c1 c2 c3 c4 k0 k1 q0 q1 q2
  have hL6 : Linked (nwF t6) (odF t6) nw4 od4 (ord.erase slot) := by
    rw [HN6.out.1, HN6.out.2]
    exact HU4.out.linked HM.out.link HSL.out
  have HLK := Aside0.mk hL6
  have hni := not_mem_erase HM.out.link.nodup slot
  have hr6 := head_room hL6.head hni (n := t6.length) (fun x hx => by rw [HL6.out]; exact (HM.out.all x).1 (mem_erase' HM.out.link.nodup hx).2)
  have HR6 := Aside0.mk hr6
  have HNI := Aside0.mk hni
  clear hL6 hni hr6
  go_wp2_with (go_at_call 120; refine (link_calls HM7.out slot (by rw [HL6.out]; exact hsl2) HR6.out).mono ?_; rintro e w8 ⟨rfl, s8, nw8, od8, hm8, hu8, hc8⟩; have HM8 := Aside0.mk hm8; have HU8 := Aside0.mk hu8; have HC8 := Aside0.mk hc8; clear hm8 hu8 hc8)
  go_ret3
  have hlen8 : s8.length = seats.length := HU8.out.len.trans HL6.out
  refine ⟨slot, HLA.out, hsl2, rfl, s8, nw8, od8, _, ⟨HM8.out, HU8.out.linked HLK.out HNI.out, fun x => ?_, ?_, HM.out.k1, by rw [hlen8]; exact HM.out.room⟩, hlen8, fun j => by rw [HU8.out.key]; exact HKA.out j, ?_⟩
  · rw [hlen8, ← HM.out.all x, List.mem_cons, List.Nodup.mem_erase_iff HM.out.link.nodup]
    constructor
    · rintro (rfl | h)
      · exact HSL.out
      · exact h.2
    · intro h
      by_cases e : x = slot
      · exact .inl e
      · exact .inr ⟨e, h⟩
  · obtain ⟨h1, h2, h3, h4, h5⟩ := HKY.out
    refine ⟨fun i hi => ?_, fun i hi => ?_, fun a' b' ha hb hh => ?_, fun x y hx hy hxy => ?_, ?_⟩
    · rw [HU8.out.key]; exact h1 i (by rw [← HU8.out.len]; exact hi)
    · rw [HU8.out.key]; exact h2 i (by rw [← HU8.out.len]; exact hi)
    · rw [HU8.out.key, HU8.out.len]; exact h3 a' b' ha hb hh
    · rw [HU8.out.key] at hxy; exact h4 x y (by rw [← HU8.out.len]; exact hx) (by rw [← HU8.out.len]; exact hy) hxy
    · rw [HU8.out.len]; exact h5
  · exact (HC6.out.drew.then_ (Chg.of_grown HG7.out (S := LruS lb mb sv) (fun k hk => .inr (.inl (by injection hk with hk; exact hk.symm)))) (fun _ h => .inl h)).trans HC8.out
end Go.Proofs.Ytgcfcemgeppkmaa.P
namespace Go.Proofs.Ytgcfcemgeppkmaa.P
open Go.RowKit Go.Proofs.YtgcfcemgeppkmaaW.PrintWords Go.Proofs.YtgcfcemgeppkmaaW.PrintLast Go.Proofs.YtgcfcemgeppkmaaW.PrintMore
open Go.Proofs.Ytgcfcemgeppkmaa.Ord
set_option linter.unusedVariables false
set_option linter.unusedSimpArgs false
variable {w w' : World} {lb base : Nat} {k : Int} {sv : Value} {mb : Nat} {seats : List Seat} {newest oldest : Int} {D : DataW Unit} {ord : List Nat}
theorem LruOk.empty {w : World} {lb base mb : Nat} {k : Int} (hb : w.heap[lb]? = some (.cells #[.int .i64 k, .slice none 0 0, .map (some mb), .int .i64 (-1), .int .i64 (-1)] 150 (0, 0))) (hm : MapO w mb 0 (.map [])) (h1 : base ≤ lb) (h2 : base ≤ mb) (hk : 1 ≤ k) : LruOk w lb base k (.slice none 0 0) mb [] (-1) (-1) (.map []) [] where
  m := ⟨hb, .inl ⟨rfl, rfl⟩, hm.fit, h1, h2⟩
  link := Linked.empty _ _
  all i := by simp
  keys := ⟨fun i hi => absurd hi (by simp), fun i hi => absurd hi (by simp), fun a b ha hb hh => absurd hh (by simp [Maps.has]), fun i j hi => absurd hi (by simp), rfl⟩
  k1 := hk
  room := by simp; omega
set_option maxRecDepth 100000 in
set_option maxHeartbeats 2000000 in
theorem clear_calls {v1 v2 v3 v4 : Value} (hb : w.heap[lb]? = some (.cells #[.int .i64 k, v1, v2, v3, v4] 150 (0, 0))) (hB : base ≤ lb) (hk : 1 ≤ k) :
    Calls Try.prog 101 #[.pointer (some ⟨lb, 0, none⟩)] w fun e w' => e = .returned (.tuple #[]) ∧ ∃ mb, w.heap.size ≤ mb ∧ LruOk w' lb base k (.slice none 0 0) mb [] (-1) (-1) (.map []) [] ∧ Chg (fun b => b = lb) w w' := by
  have hmm := @run_makeMap Try.prog
  obtain ⟨w1, hw1⟩ : ∃ w1, w1 = w.alloc (.map #[] 0) := ⟨_, rfl⟩
  have hb1 : w1.heap[lb]? = some (.cells #[.int .i64 k, v1, v2, v3, v4] 150 (0, 0)) := by rw [hw1]; exact blk_alloc hb _
  have hM : MapO w1 w.heap.size 0 (.map []) := by rw [hw1]; exact World.ownsMap_made _ _ _ _
  have hlt := blk_lt hb
  have HB := Aside0.mk hb
  have HB1 := Aside0.mk hb1
  have HM := Aside0.mk hM
  have HLT := Aside0.mk hlt
  have HW := Aside0.mk hw1
  have c1 := cell_blk (j := 1) (u := v1) hb1 rfl
  have c2 := cell_blk (j := 2) (u := v2) hb1 rfl
  have c3 := cell_blk (j := 3) (u := v3) hb1 rfl
  have c4 := cell_blk (j := 4) (u := v4) hb1 rfl
  have f1 := free_blk hb1 1
  have f2 := free_blk hb1 2
  have f3 := free_blk hb1 3
  have f4 := free_blk hb1 4
  rw [hw1] at c1 c2 c3 c4 f1 f2 f3 f4
  clear hb hb1 hM hlt hw1
  go_enter Try.func101, Try.ntmps101
  go_wp2
  go_end0
  rw [← HW.out]
  have h5 := set_blk (set_blk (set_blk (set_blk HB1.out 1 (.slice none 0 0)) 2 (.map (some w.heap.size))) 3 (.int .i64 (-1))) 4 (.int .i64 (-1))
  refine ⟨rfl, w.heap.size, Nat.le_refl _, LruOk.empty h5 ?_ hB (by have := HLT.out; omega) hk, ?_⟩
  · have hne : ∀ p : Addr, p.block = lb → w.heap.size ≠ p.block := fun p hp e => by rw [hp] at e; have := HLT.out; omega
    refine HM.out.heap ?_
    rw [Below.heap_setCell _ _ _ _ (hne _ rfl), Below.heap_setCell _ _ _ _ (hne _ rfl), Below.heap_setCell _ _ _ _ (hne _ rfl), Below.heap_setCell _ _ _ _ (hne _ rfl)]
  · rw [HW.out]
    exact (((((Chg.refl (fun b => b = lb) w).alloc _).set_ (.inl rfl) _).set_ (.inl rfl) _).set_ (.inl rfl) _).set_ (.inl rfl) _
set_option maxRecDepth 100000 in
set_option maxHeartbeats 2000000 in
theorem new_calls (k : Int) (hk : 1 ≤ k) (w : World) :
    Calls Try.prog 97 #[.int .i64 k] w fun e w' => ∃ lb mb, w.heap.size ≤ lb ∧ e = .returned (.pointer (some ⟨lb, 0, none⟩)) ∧ LruOk w' lb w.heap.size k (.slice none 0 0) mb [] (-1) (-1) (.map []) [] ∧ Below w.heap.size w w' := by
  have d1 : decide (k < 1) = false := decide_eq_false (by omega)
  go_enter Try.func97, Try.ntmps97
  go_wp2_with (first
    | ((with_reducible refine gate_dst (N := 8) rfl ?_); refine box_event ?hg (N := 8) ?hd (cs := #[.int .i64 k, .slice none 0 0, .map none, .int .i64 0, .int .i64 0]) (t := 150) ?hr ?_; (case hd => rfl); (case hg => rfl); (case hr => first | (go_simp; done) | (go_simp; rfl)); intro gb hg w1 hbox hb; have HB1 := Aside0.mk hb; have HX := Aside0.mk hbox; have HG := Aside0.mk hg; clear hb hbox hg)
    | (go_at_call 101; refine (clear_calls (base := w.heap.size) HX.out (by rw [HG.out]; exact Nat.le_refl _) hk).mono ?_; rintro e w2 ⟨rfl, mb, hmb, hok, hc⟩; have HOK := Aside0.mk hok; have HC := Aside0.mk hc; clear hok hc))
  go_ret
  refine ⟨gb, mb, by rw [HG.out]; exact Nat.le_refl _, rfl, HOK.out, ?_⟩
  exact ((Chg.of_below HB1.out (fun b => w.heap.size ≤ b)).then_ HC.out (fun c hc => .inl (by rw [hc, HG.out]; exact Nat.le_refl _))).below (fun k hk => hk) (Nat.le_refl _)
abbrev kKey : Kd (Int × Int) := Kd.pair (Kd.int .i64) (Kd.int .i64)
theorem kKey_open {w : World} {x : Int × Int} {cs : List Value} (h : kKey.K w x cs) : cs = [.int .i64 x.1, .int .i64 x.2] := by
  obtain ⟨_, _, rfl, rfl, rfl⟩ := h
  rfl
theorem kKey_mkM (w : World) (b : Nat) (ok : Nat → Prop) (x : Int × Int) : kKey.M w b ok x [.int .i64 x.1, .int .i64 x.2] := ⟨[.int .i64 x.1], [.int .i64 x.2], rfl, rfl, rfl⟩
theorem infoKey : (Try.prog.info? 86).map (fun i => (i.zero, i.size, i.bytes)) = some (some (.agg #[.int .i64 0, .int .i64 0]), 2, 16) := by kernel_rfl
theorem LruOk.below (h : LruOk w lb base k sv mb seats newest oldest D ord) (hb : Below w.heap.size w w') : LruOk w' lb base k sv mb seats newest oldest D ord :=
  { h with m := h.m.chg (Chg.of_below hb (fun _ => False)) (fun _ _ h => h) }
theorem nodup_len {n : Nat} : ∀ (l : List Nat), l.Nodup → (∀ x, x ∈ l → x < n) → l.length ≤ n := by
  induction n with
  | zero =>
    intro l h hl
    cases l with
    | nil => exact Nat.le_refl _
    | cons x r => exact absurd (hl x (by simp)) (by omega)
  | succ n ih =>
    intro l h hl
    by_cases hm : n ∈ l
    · have h1 := ih (l.erase n) (h.erase n) (fun x hx => by
        obtain ⟨h1, h2⟩ := mem_erase' h hx
        have := hl x h2
        omega)
      rw [List.length_erase_of_mem hm] at h1
      omega
    · have h1 := ih l h (fun x hx => by
        have := hl x hx
        have : x ≠ n := fun e => hm (e ▸ hx)
        omega)
      omega
set_option maxRecDepth 100000 in
set_option maxHeartbeats 2000000 in
theorem keys_calls (h : LruOk w lb base k sv mb seats newest oldest D ord) (hsm : seats.length ≤ 1000000) :
    Calls Try.prog 103 #[.pointer (some ⟨lb, 0, none⟩)] w fun e w' => ∃ v, e = .returned v ∧ Kd.R kKey 86 w' w.heap.size (fun _ => True) v (ord.map (keyF seats)) ∧ Below w.heap.size w w' := by
  have HM := Aside0.mk h
  obtain ⟨c0, c1, c2, c3, c4⟩ := h.m.cells
  have hhead := h.link.head
  have hol : ord.length ≤ 1000000 := Nat.le_trans (nodup_len _ h.link.nodup (fun x hx => (h.all x).1 hx)) hsm
  have HOL := Aside0.mk hol
  have HHD := Aside0.mk hhead
  clear h hhead hol
  go_enter Try.func103, Try.ntmps103
  go_wp2_with fail
  go_loopg [3, 4] ord.length (fun gg v3 v4 wr => ∃ (pre suf : List Nat), v4 = .int .i64 (headI suf) ∧ suf.length ≤ gg ∧ Aside0 (ord = pre ++ suf) ∧ Aside0 (Kd.R kKey 86 wr w.heap.size (fun _ => True) v3 (pre.map (keyF seats))) ∧ Aside0 (Below w.heap.size w wr))
  case atStart => exact ⟨[], ord, by rw [HHD.out], Nat.le_refl _, ⟨rfl⟩, ⟨Kd.R_nil _ _ _ _ _⟩, ⟨Below.refl _ _⟩⟩
  case round =>
    obtain ⟨pre, suf, rfl, hgg, HE, HO, HB⟩ := hrel
    clear c0 c1 c2 c3 c4
    cases suf with
    | nil =>
      simp only [headI]
      go_wp2_with fail
      go_ret
      refine ⟨_, rfl, ?_, HB.out⟩
      have := HO.out
      rw [HE.out, List.append_nil]
      exact this
    | cons x r =>
      simp only [headI]
      have hx : x ∈ ord := by rw [HE.out]; simp
      have hxl := (HM.out.all x).1 hx
      have hnx : odF seats x = headI r := by
        rw [HM.out.link.old x hx, HE.out]
        have hn := HM.out.link.nodup
        rw [HE.out] at hn
        obtain ⟨n1, n2, n3⟩ := List.nodup_append.1 hn
        exact nextOf_at _ (fun e => n3 x e x (by simp) rfl)
      obtain ⟨g, cap, hsv, hrow, s0, s1, s2, s3, sf⟩ := HM.out.m.seats.cells hxl
      obtain ⟨c0, c1, c2, c3, c4⟩ := HM.out.m.cells
      rw [hsv] at c1
      have hk : keyF seats x = (seats[x].ka, seats[x].kb) := keyF_at hxl
      rw [← odF_at hxl, hnx] at s3
      obtain ⟨ka, hka⟩ : ∃ ka, ka = seats[x].ka := ⟨_, rfl⟩
      obtain ⟨kb, hkb⟩ : ∃ kb, kb = seats[x].kb := ⟨_, rfl⟩
      rw [← hka, ← hkb] at hk
      rw [← hka] at s0
      rw [← hkb] at s1
      have HK := Aside0.mk hk
      have hxi : (x : Int) < (seats.length : Int) := by omega
      have hn1 : ((x : Int) != -1) = true := bne_iff_ne.2 (by omega)
      have HN := Aside0.mk hnx
      have hpl : pre.length ≤ 1000000 := by have := HOL.out; rw [HE.out] at this; simp at this; omega
      have HPL := Aside0.mk hpl
      have S3 := Aside0.mk s3
      have C1 := Aside0.mk c1
      have s0 := pw_cell_below HB.out s0
      have s1 := pw_cell_below HB.out s1
      have c1 := pw_cell_below HB.out c1
      obtain ⟨A3, n3, e3⟩ := Kd.R_slice HO.out
      rw [List.length_map] at e3
      subst e3
      clear hx hrow hk hsv sf s2 s3 hnx hpl hka hkb c0 c2 c3 c4
      go_wp2_with (first
        | ((with_reducible refine gate_dst (N := 30) rfl ?_); refine Kd.R_lit kKey wr.heap.size 86 ?hg (N := 30) ?hd (xs := [(ka, kb)]) (inner := [.int .i64 ka, .int .i64 kb]) (ok := fun _ => True) (okp := fun _ => True) ?hr ?hp (fun _ hk => hk) trivial (Below.refl _ _) (Nat.le_refl _) (by simp) ?_; (case hd => rfl); (case hg => rfl); (case hr => first | (go_simp; done) | (go_simp; rfl)); (case hp => exact (Reps.c2 (kKey_mkM _ _ _ (ka, kb)) (Reps.none _ _))); intro v5 w5 ho hb _ _; obtain ⟨A5, n5, rfl, _, hC⟩ := Kd.R_reads ho; have HB5 := Aside0.mk (below_step HB.out hb); have HO5 := Aside0.mk (Kd.R_below HO.out hb); have HL5 := Aside0.mk hC; clear ho hb hC)
        | ((with_reducible refine gate_builtin (b := .append) (xs := #[.tmp 21, .tmp 30]) rfl ?_); at_builtin; go_loud (refine Kd.R_append_rows kKey (w0 := w) w.heap.size rfl (.tmp 21) (.tmp 30) 84 86 (.agg #[.int .i64 0, .int .i64 0]) 16 rfl Try.underlying84 infoKey rfl (by decide) (by omega) _ (pre.map (keyF seats)) [(ka, kb)] _ _ _ (fun _ => True) (fun _ => False) rfl rfl HO5.out HL5.out (fun _ _ h => h) (fun _ h => h.elim) (fun _ _ => trivial) HB5.out HB5.out.size (by have := HPL.out; simp only [List.length_map, List.length_cons, List.length_nil]; omega) ?_); intro v6 w6 ho hb hg hat; have HB6 := Aside0.mk hb; have HO6 := Aside0.mk ho; clear ho hb hg hat; have z3 := pw_cell_below HB6.out S3.out; have z1 := pw_cell_below HB6.out C1.out))
      go_roundg r.length
      case measure => simp only [List.length_cons] at hgg; omega
      case rel =>
        refine ⟨pre ++ [x], r, rfl, Nat.le_refl _, ⟨by rw [HE.out]; simp⟩, ⟨?_⟩, HB6⟩
        have := HO6.out
        rw [List.map_append, List.map_cons, List.map_nil, HK.out]
        exact this
end Go.Proofs.Ytgcfcemgeppkmaa.P
namespace Go.Proofs.Ytgcfcemgeppkmaa.P
open Go.RowKit Go.Proofs.YtgcfcemgeppkmaaW.PrintWords Go.Proofs.YtgcfcemgeppkmaaW.PrintLast Go.Proofs.YtgcfcemgeppkmaaW.PrintMore
open Go.Proofs.Ytgcfcemgeppkmaa.Ord
set_option linter.unusedVariables false
set_option linter.unusedSimpArgs false
variable {w w' : World} {lb base : Nat} {k : Int} {sv : Value} {mb : Nat} {seats : List Seat} {newest oldest : Int} {D : DataW Unit} {ord : List Nat}
theorem use_calls (h : LruOk w lb base k sv mb seats newest oldest D ord) {a b : Int} (ha : W64 a) (hb : W64 b) (hsm : seats.length ≤ 1000000) :
    Calls Try.prog 98 #[.pointer (some ⟨lb, 0, none⟩), .int .i64 a, .int .i64 b] w fun e w' => ∃ (slot : Nat) (had out : Bool), e = .returned (.tuple #[.int .i64 slot, .bool had, .bool out]) ∧ ∃ sv' seats' nw' od' D' ord', LruOk w' lb base k sv' mb seats' nw' od' D' ord' ∧ Used seats.length k (keyF seats) ord a b slot had out seats'.length (keyF seats') ord' ∧ Chg (LruS lb mb sv) w w' ∧ (∀ c, LruS lb mb sv' c → LruS lb mb sv c ∨ w.heap.size ≤ c) := by
  by_cases hex : ∃ i, i < seats.length ∧ keyF seats i = (a, b)
  · obtain ⟨i, hi, hab⟩ := hex
    refine (use_hit h hi hab hsm).mono ?_
    rintro e w' ⟨rfl, s', nw', od', D', hok, hl, hk, hc⟩
    refine ⟨i, true, false, rfl, sv, s', nw', od', D', _, hok, ⟨fun _ => ⟨hi, hab, rfl, hl, hk, rfl⟩, fun h => by simp at h, fun h => by simp at h, fun h => by simp at h⟩, hc, fun c hc => .inl hc⟩
  · have hn : ∀ i, i < seats.length → keyF seats i ≠ (a, b) := fun i hi e => hex ⟨i, hi, e⟩
    by_cases hk : (seats.length : Int) < k
    · refine (use_fresh h ha hb hn hk hsm).mono ?_
      rintro e w' ⟨rfl, sv', s', nw', od', D', hok, hl, hkey, hc, ho⟩
      refine ⟨seats.length, false, false, rfl, sv', s', nw', od', D', _, hok, ⟨fun h => by simp at h, fun _ => ⟨hn, hkey⟩, fun _ _ => ⟨rfl, rfl, hl, rfl⟩, fun _ h => absurd hk h⟩, hc, ho⟩
    · refine (use_evict h ha hb hn hk hsm).mono ?_
      rintro e w' ⟨slot, hla, hsl, rfl, s', nw', od', D', hok, hl, hkey, hc⟩
      refine ⟨slot, false, true, rfl, sv, s', nw', od', D', _, hok, ⟨fun h => by simp at h, fun _ => ⟨hn, hkey⟩, fun _ h => absurd h hk, fun _ _ => ⟨hsl, hla, rfl, hl, rfl⟩⟩, hc, fun c hc => .inl hc⟩
end Go.Proofs.Ytgcfcemgeppkmaa.P
