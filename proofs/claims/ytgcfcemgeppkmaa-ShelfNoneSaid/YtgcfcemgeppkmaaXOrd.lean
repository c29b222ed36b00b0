/-
  PLAIN: an order of numbers as two links: who is next, who was before.
-/
import Derived.Below
namespace Go.Proofs.Ytgcfcemgeppkmaa.Ord
def headI : List Nat → Int
  | [] => -1
  | x :: _ => (x : Int)
def lastI : List Nat → Int
  | [] => -1
  | [x] => (x : Int)
  | _ :: y :: r => lastI (y :: r)
def nextOf : List Nat → Nat → Int
  | [], _ => -1
  | y :: r, x => if y = x then headI r else nextOf r x
theorem nextOf_cons (y : Nat) (r : List Nat) (x : Nat) : nextOf (y :: r) x = if y = x then headI r else nextOf r x := rfl
theorem lastI_cons2 (y z : Nat) (r : List Nat) : lastI (y :: z :: r) = lastI (z :: r) := rfl
theorem nodup_rev {l : List Nat} (h : l.Nodup) : l.reverse.Nodup := List.pairwise_reverse.2 (h.imp Ne.symm)
def prevOf (l : List Nat) (x : Nat) : Int := nextOf l.reverse x
theorem lastI_snoc (l : List Nat) (x : Nat) : lastI (l ++ [x]) = (x : Int) := by
  induction l with
  | nil => rfl
  | cons y r ih =>
    cases r with
    | nil => rfl
    | cons z r => exact ih
theorem headI_reverse (l : List Nat) : headI l.reverse = lastI l := by
  induction l with
  | nil => rfl
  | cons y r ih =>
    cases r with
    | nil => rfl
    | cons z r =>
      rw [List.reverse_cons]
      have h : (z :: r).reverse ≠ [] := by simp
      obtain ⟨a, t, e⟩ : ∃ a t, (z :: r).reverse = a :: t := by
        cases hq : (z :: r).reverse with
        | nil => exact absurd hq h
        | cons a t => exact ⟨a, t, rfl⟩
      rw [e] at ih ⊢
      exact ih
theorem lastI_reverse (l : List Nat) : lastI l.reverse = headI l := by
  have := headI_reverse l.reverse
  rw [List.reverse_reverse] at this
  exact this.symm
theorem headI_mem {l : List Nat} {x : Nat} (h : headI l = (x : Int)) : x ∈ l := by
  cases l with
  | nil => exact absurd h (by simp only [headI]; omega)
  | cons y r =>
    have : (y : Int) = x := h
    have : y = x := by omega
    simp [this]
theorem lastI_mem {l : List Nat} {x : Nat} (h : lastI l = (x : Int)) : x ∈ l := by
  rw [← headI_reverse] at h
  simpa using headI_mem h
theorem headI_cases (l : List Nat) : (headI l = -1 ∧ l = []) ∨ ∃ x, x ∈ l ∧ headI l = (x : Int) := by
  cases l with
  | nil => exact .inl ⟨rfl, rfl⟩
  | cons y r => exact .inr ⟨y, by simp, rfl⟩
theorem lastI_cases (l : List Nat) : (lastI l = -1 ∧ l = []) ∨ ∃ x, x ∈ l ∧ lastI l = (x : Int) := by
  rcases headI_cases l.reverse with ⟨h, e⟩ | ⟨x, hx, h⟩
  · exact .inl ⟨by rw [← headI_reverse]; exact h, by simpa using e⟩
  · exact .inr ⟨x, by simpa using hx, by rw [← headI_reverse]; exact h⟩
theorem nextOf_at {pre : List Nat} {s : Nat} (post : List Nat) (h : s ∉ pre) : nextOf (pre ++ s :: post) s = headI post := by
  induction pre with
  | nil => simp [nextOf]
  | cons y r ih =>
    have h1 : y ≠ s := fun e => h (by simp [e])
    have h2 : s ∉ r := fun e => h (by simp [e])
    show nextOf (y :: (r ++ s :: post)) s = _
    rw [nextOf_cons, if_neg h1]
    exact ih h2
theorem prevOf_at {pre post : List Nat} {s : Nat} (h : s ∉ post) : prevOf (pre ++ s :: post) s = lastI pre := by
  unfold prevOf
  rw [show (pre ++ s :: post).reverse = post.reverse ++ s :: pre.reverse by simp, nextOf_at _ (by simpa using h), headI_reverse]
/-- Without s whoever was just before it has what was next of it. -/
theorem nextOf_skip (s : Nat) (post : List Nat) (x : Nat) (hx : s ≠ x) : ∀ pre : List Nat, pre.Nodup → nextOf (pre ++ post) x = if lastI pre = (x : Int) then (if x ∈ pre then headI post else nextOf (pre ++ s :: post) x) else nextOf (pre ++ s :: post) x
  | [], _ => by
    rw [if_neg (by show ¬ (-1 : Int) = x; omega)]
    show nextOf post x = nextOf (s :: post) x
    rw [nextOf_cons, if_neg hx]
  | [y], _ => by
    by_cases e : y = x
    · subst e
      rw [if_pos (by rfl), if_pos (by simp)]
      show nextOf (y :: post) y = headI post
      rw [nextOf_cons, if_pos rfl]
    · rw [if_neg (by show ¬ (y : Int) = x; omega)]
      show nextOf (y :: post) x = nextOf (y :: s :: post) x
      simp only [nextOf, if_neg e, if_neg hx]
  | y :: z :: r, hn => by
    obtain ⟨h1, h2⟩ := List.nodup_cons.1 hn
    have ih := nextOf_skip s post x hx (z :: r) h2
    by_cases e : y = x
    · subst e
      rw [lastI_cons2, if_neg (fun h => h1 (lastI_mem h))]
      simp [nextOf, headI]
    · show nextOf (y :: ((z :: r) ++ post)) x = _
      rw [nextOf_cons, if_neg e, ih]
      show (if lastI (z :: r) = (x : Int) then _ else _) = if lastI (z :: r) = (x : Int) then _ else _
      have e1 : nextOf ((y :: z :: r) ++ s :: post) x = nextOf ((z :: r) ++ s :: post) x := by
        show nextOf (y :: ((z :: r) ++ s :: post)) x = _
        rw [nextOf_cons, if_neg e]
      rw [e1]
      by_cases hm : x ∈ z :: r
      · rw [if_pos hm, if_pos (List.mem_cons_of_mem _ hm)]
      · have hm' : x ∉ y :: z :: r := fun h => by
          rcases List.mem_cons.1 h with h | h
          · exact e h.symm
          · exact hm h
        rw [if_neg hm, if_neg hm']
theorem nextOf_erase {s : Nat} {pre post : List Nat} (hn : (pre ++ s :: post).Nodup) {x : Nat} (hx : s ≠ x) : nextOf (pre ++ post) x = if lastI pre = (x : Int) then headI post else nextOf (pre ++ s :: post) x := by
  have h := nextOf_skip s post x hx pre (List.nodup_append.1 hn).1
  rw [h]
  by_cases e : lastI pre = (x : Int)
  · rw [if_pos e, if_pos e, if_pos (lastI_mem e)]
  · rw [if_neg e, if_neg e]
theorem prevOf_erase {s : Nat} {pre post : List Nat} (hn : (pre ++ s :: post).Nodup) {x : Nat} (hx : s ≠ x) : prevOf (pre ++ post) x = if headI post = (x : Int) then lastI pre else prevOf (pre ++ s :: post) x := by
  have hn' : (post.reverse ++ s :: pre.reverse).Nodup := by
    have := nodup_rev hn
    rw [show (pre ++ s :: post).reverse = post.reverse ++ s :: pre.reverse by simp] at this
    exact this
  have h := nextOf_erase hn' hx
  unfold prevOf
  rw [show (pre ++ post).reverse = post.reverse ++ pre.reverse by simp, show (pre ++ s :: post).reverse = post.reverse ++ s :: pre.reverse by simp, h, lastI_reverse, headI_reverse]
theorem nextOf_snoc (s : Nat) : ∀ (l : List Nat) (x : Nat), l.Nodup → x ∈ l → nextOf (l ++ [s]) x = if lastI l = (x : Int) then (s : Int) else nextOf l x
  | [], x, _, hx => by simp at hx
  | [y], x, _, hx => by
    obtain rfl : x = y := by simpa using hx
    simp [nextOf, lastI, headI]
  | y :: z :: r, x, hn, hx => by
    obtain ⟨h1, h2⟩ := List.nodup_cons.1 hn
    by_cases e : y = x
    · subst e
      rw [lastI_cons2, if_neg (fun h => h1 (lastI_mem h))]
      simp [nextOf, headI]
    · have hx' : x ∈ z :: r := by
        rcases List.mem_cons.1 hx with h | h
        · exact absurd h.symm e
        · exact h
      show nextOf (y :: ((z :: r) ++ [s])) x = _
      rw [nextOf_cons, if_neg e, nextOf_cons, if_neg e, nextOf_snoc s (z :: r) x h2 hx', lastI_cons2]
theorem nextOf_not {l : List Nat} {x : Nat} (h : x ∉ l) (r : List Nat) : nextOf (l ++ r) x = nextOf r x := by
  induction l with
  | nil => rfl
  | cons y t ih =>
    show nextOf (y :: (t ++ r)) x = _
    rw [nextOf_cons, if_neg (fun e => h (by simp [e])), ih (fun e => h (by simp [e]))]
/-- The links of an order. -/
structure Linked (newer old : Nat → Int) (newest oldest : Int) (ord : List Nat) : Prop where
  nodup : ord.Nodup
  head : newest = headI ord
  last : oldest = lastI ord
  old : ∀ x, x ∈ ord → old x = nextOf ord x
  newer : ∀ x, x ∈ ord → newer x = prevOf ord x
def updI (f : Nat → Int) (i : Int) (v : Int) : Nat → Int := fun x => if (x : Int) = i then v else f x
theorem erase_mid {pre post : List Nat} {s : Nat} (h : s ∉ pre) : (pre ++ s :: post).erase s = pre ++ post := by
  rw [List.erase_append_right _ h, List.erase_cons_head]
theorem Linked.unlink {newer old : Nat → Int} {newest oldest : Int} {ord : List Nat} (h : Linked newer old newest oldest ord) {s : Nat} (hs : s ∈ ord) :
    Linked (if old s = -1 then newer else updI newer (old s) (newer s)) (if newer s = -1 then old else updI old (newer s) (old s)) (if newer s = -1 then old s else newest) (if old s = -1 then newer s else oldest) (ord.erase s) := by
  obtain ⟨pre, post, rfl⟩ := List.append_of_mem hs
  have hn := h.nodup
  obtain ⟨n1, n2, n3⟩ := List.nodup_append.1 hn
  obtain ⟨n4, n5⟩ := List.nodup_cons.1 n2
  have hsp : s ∉ pre := fun e => n3 s e s (by simp) rfl
  have eo : old s = headI post := (h.old s (by simp)).trans (nextOf_at post hsp)
  have en : newer s = lastI pre := (h.newer s (by simp)).trans (prevOf_at n4)
  rw [erase_mid hsp, eo, en]
  have hnd : (pre ++ post).Nodup := List.nodup_append.2 ⟨n1, n5, fun a ha b hb => n3 a ha b (List.mem_cons_of_mem _ hb)⟩
  refine ⟨hnd, ?_, ?_, fun x hx => ?_, fun x hx => ?_⟩
  · rw [h.head]
    cases pre with
    | nil => exact if_pos rfl
    | cons y r =>
      rw [if_neg (by
        rcases lastI_cases (y :: r) with ⟨_, e⟩ | ⟨x, _, e⟩
        · exact absurd e (by simp)
        · rw [e]; omega)]
      rfl
  · rw [h.last]
    have hcc : post = [] ∨ ∃ t z, post = t ++ [z] := by
      rcases List.eq_nil_or_concat post with h | ⟨t, z, h⟩
      · exact .inl h
      · exact .inr ⟨t, z, by rw [h]; simp⟩
    rcases hcc with rfl | ⟨t, z, rfl⟩
    · rw [List.append_nil]; exact if_pos rfl
    · rw [if_neg (by
        rcases headI_cases (t ++ [z]) with ⟨_, e⟩ | ⟨x, _, e⟩
        · exact absurd e (by simp)
        · rw [e]; omega)]
      rw [show pre ++ s :: (t ++ [z]) = (pre ++ s :: t) ++ [z] by simp, show pre ++ (t ++ [z]) = (pre ++ t) ++ [z] by simp, lastI_snoc, lastI_snoc]
  · have hsx : s ≠ x := by
      rintro rfl
      rcases List.mem_append.1 hx with e | e
      · exact hsp e
      · exact n4 e
    have hxo : x ∈ pre ++ s :: post := by
      rcases List.mem_append.1 hx with e | e
      · exact List.mem_append_left _ e
      · exact List.mem_append_right _ (List.mem_cons_of_mem _ e)
    rw [nextOf_erase hn hsx, ← h.old x hxo]
    by_cases e1 : lastI pre = -1
    · rw [if_pos e1, if_neg (by rw [e1]; omega)]
    · rw [if_neg e1]
      unfold updI
      by_cases e2 : (x : Int) = lastI pre
      · rw [if_pos e2, if_pos e2.symm]
      · rw [if_neg e2, if_neg (fun e => e2 e.symm)]
  · have hsx : s ≠ x := by
      rintro rfl
      rcases List.mem_append.1 hx with e | e
      · exact hsp e
      · exact n4 e
    have hxo : x ∈ pre ++ s :: post := by
      rcases List.mem_append.1 hx with e | e
      · exact List.mem_append_left _ e
      · exact List.mem_append_right _ (List.mem_cons_of_mem _ e)
    rw [prevOf_erase hn hsx, ← h.newer x hxo]
    by_cases e1 : headI post = -1
    · rw [if_pos e1, if_neg (by rw [e1]; omega)]
    · rw [if_neg e1]
      unfold updI
      by_cases e2 : (x : Int) = headI post
      · rw [if_pos e2, if_pos e2.symm]
      · rw [if_neg e2, if_neg (fun e => e2 e.symm)]
theorem Linked.link {newer old : Nat → Int} {newest oldest : Int} {ord : List Nat} (h : Linked newer old newest oldest ord) {s : Nat} (hs : s ∉ ord) :
    Linked (if newest = -1 then updI newer (s : Int) (-1) else updI (updI newer (s : Int) (-1)) newest (s : Int)) (updI old (s : Int) newest) (s : Int) (if newest = -1 then (s : Int) else oldest) (s :: ord) := by
  refine ⟨List.nodup_cons.2 ⟨hs, h.nodup⟩, rfl, ?_, fun x hx => ?_, fun x hx => ?_⟩
  · rw [h.head, h.last]
    cases ord with
    | nil => rfl
    | cons y r => rw [if_neg (by simp only [headI]; omega)]; rfl
  · unfold updI
    by_cases e : x = s
    · subst e
      rw [if_pos rfl, h.head]
      simp [nextOf]
    · have hx' : x ∈ ord := by
        rcases List.mem_cons.1 hx with h | h
        · exact absurd h e
        · exact h
      rw [if_neg (by omega), h.old x hx']
      rw [nextOf_cons, if_neg (fun h => e h.symm)]
  · have hrev : prevOf (s :: ord) x = nextOf (ord.reverse ++ [s]) x := by unfold prevOf; rw [List.reverse_cons]
    by_cases e : x = s
    · subst e
      rw [hrev, nextOf_not (by simpa using hs)]
      have e1 : nextOf [x] x = -1 := by simp [nextOf, headI]
      rw [e1]
      by_cases e2 : newest = -1
      · rw [if_pos e2]; simp [updI]
      · rw [if_neg e2]
        unfold updI
        rw [if_neg (fun e => hs (headI_mem (h.head.symm.trans e.symm))), if_pos rfl]
    · have hx' : x ∈ ord := by
        rcases List.mem_cons.1 hx with h | h
        · exact absurd h e
        · exact h
      rw [hrev, nextOf_snoc s _ x (nodup_rev h.nodup) (by simpa using hx'), lastI_reverse, ← h.head]
      by_cases e2 : newest = -1
      · have : ord = [] := by
          rcases headI_cases ord with ⟨_, e⟩ | ⟨y, _, e⟩
          · exact e
          · rw [← h.head, e2] at e; omega
        rw [this] at hx'
        simp at hx'
      · rw [if_neg e2]
        unfold updI
        by_cases e3 : (x : Int) = newest
        · rw [if_pos e3, if_pos e3.symm]
        · rw [if_neg e3, if_neg (by omega), if_neg (fun e => e3 e.symm), h.newer x hx']
          rfl
theorem Linked.empty (newer old : Nat → Int) : Linked newer old (-1) (-1) [] := ⟨List.nodup_nil, rfl, rfl, fun x hx => by simp at hx, fun x hx => by simp at hx⟩
theorem Linked.congr {newer old newer' old' : Nat → Int} {newest oldest : Int} {ord : List Nat} (h : Linked newer old newest oldest ord) (h1 : ∀ x, x ∈ ord → newer' x = newer x) (h2 : ∀ x, x ∈ ord → old' x = old x) : Linked newer' old' newest oldest ord :=
  ⟨h.nodup, h.head, h.last, fun x hx => (h2 x hx).trans (h.old x hx), fun x hx => (h1 x hx).trans (h.newer x hx)⟩
end Go.Proofs.Ytgcfcemgeppkmaa.Ord
