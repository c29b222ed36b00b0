/-
 PLAIN: a heap's list: an entry rises, an entry sinks; the first one is the least.
-/
import Derived.Test.YthgehdembghdaaaGreatXBase
namespace Go.Proofs.YthgehdembghdaaaGreat.Heap
set_option linter.unusedVariables false
set_option linter.unusedSimpArgs false
abbrev E := Int × Int
def lt (a b : E) : Bool := decide (a.1 < b.1 ∨ a.1 = b.1 ∧ a.2 < b.2)
def le (a b : E) : Prop := a.1 < b.1 ∨ a.1 = b.1 ∧ a.2 ≤ b.2
theorem le_not {a b : E} (h : lt b a = false) : le a b := by
 have h' := of_decide_eq_false h
 unfold le
 omega
theorem le_lt {a b : E} (h : lt a b = true) : le a b := by
 have h' := of_decide_eq_true h
 unfold le
 omega
theorem le_refl (a : E) : le a a := .inr ⟨rfl, Int.le_refl _⟩
theorem le_trans {a b c : E} (h : le a b) (k : le b c) : le a c := by
 unfold le at *
 omega
def gt (l : List E) (i : Nat) : E := l.getD i (0, 0)
def par (i : Nat) : Nat := (i - 1) / 2
def swap (l : List E) (i j : Nat) : List E := (l.set i (gt l j)).set j (gt l i)
theorem gt_set (l : List E) (i j : Nat) (x : E) : gt (l.set i x) j = if i = j ∧ i < l.length then x else gt l j := by
 unfold gt
 simp only [List.getD_eq_getElem?_getD, List.getElem?_set]
 by_cases h : i = j
 ·subst h
  by_cases h2 : i < l.length <;> simp [h2]
 ·simp [h]
theorem swap_len (l : List E) (i j : Nat) : (swap l i j).length = l.length := by simp [swap]
theorem gt_swap {l : List E} {i j : Nat} (hi : i < l.length) (hj : j < l.length) (k : Nat) : gt (swap l i j) k = if k = j then gt l i else if k = i then gt l j else gt l k := by
 unfold swap
 rw [gt_set, gt_set, List.length_set]
 by_cases a : k = j
 ·rw [if_pos ⟨a.symm, hj⟩, if_pos a]
 ·rw [if_neg (fun q => a q.1.symm), if_neg a]
  by_cases b : k = i
  ·rw [if_pos ⟨b.symm, hi⟩, if_pos b]
  ·rw [if_neg (fun q => b q.1.symm), if_neg b]
theorem swap_perm {l : List E} {i j : Nat} (hi : i < l.length) (hj : j < l.length) : (swap l i j).Perm l := by
 rw [List.perm_iff_count]
 intro a
 have e1 : gt l i = l[i] := by unfold gt; rw [List.getD_eq_getElem?_getD, List.getElem?_eq_getElem hi]; rfl
 have e2 : gt l j = l[j] := by unfold gt; rw [List.getD_eq_getElem?_getD, List.getElem?_eq_getElem hj]; rfl
 unfold swap
 rw [List.count_set (by simpa using hj), List.count_set hi, e1, e2, List.getElem_set]
 have p1 : (if l[i] == a then 1 else 0) ≤ l.count a := by
  split
  ·rename_i q
   have := List.count_pos_iff.2 (show a ∈ l by rw [← eq_of_beq q]; exact List.getElem_mem hi)
   omega
  ·omega
 have p2 : (if l[j] == a then 1 else 0) ≤ l.count a := by
  split
  ·rename_i q
   have := List.count_pos_iff.2 (show a ∈ l by rw [← eq_of_beq q]; exact List.getElem_mem hj)
   omega
  ·omega
 by_cases h : i = j
 ·subst h
  simp only [if_true]
  omega
 ·rw [if_neg h]
  omega
def Ok (l : List E) : Prop := ∀ j, 0 < j → j < l.length → le (gt l (par j)) (gt l j)
theorem par_lt {j : Nat} (h : 0 < j) : par j < j := by unfold par; omega
structure UpI (l : List E) (i : Nat) : Prop where
 at_ : ∀ j, 0 < j → j < l.length → j ≠ i → le (gt l (par j)) (gt l j)
 kid : ∀ j, 0 < j → j < l.length → par j = i → 0 < i → le (gt l (par i)) (gt l j)
def upF : Nat → Nat → List E → List E
 | 0, _, l => l
 | f + 1, i, l => if i = 0 then l else if lt (gt l i) (gt l (par i)) then upF f (par i) (swap l i (par i)) else l
theorem up_ok : ∀ (f i : Nat) (l : List E), i < l.length → i < f → UpI l i → Ok (upF f i l) ∧ (upF f i l).Perm l := by
 intro f
 induction f with
 | zero => intro i l _ h _; omega
 | succ f ih =>
  intro i l hi hf h
  unfold upF
  by_cases h0 : i = 0
  ·subst h0
   rw [if_pos rfl]
   exact ⟨fun j j0 jl => h.at_ j j0 jl (by omega), List.Perm.refl _⟩
  ·rw [if_neg h0]
   have hp := par_lt (j := i) (by omega)
   by_cases hl : lt (gt l i) (gt l (par i)) = true
   ·rw [if_pos hl]
    have hpl : par i < l.length := by omega
    have g := gt_swap hi hpl
    have hle := le_lt hl
    have hinv : UpI (swap l i (par i)) (par i) := by
     constructor
     ·intro j j0 jl jn
      rw [swap_len] at jl
      have hj := par_lt j0
      rw [g (par j), g j, if_neg jn]
      by_cases ji : j = i
      ·subst ji
       rw [if_pos rfl, if_pos rfl]
       exact hle
      ·rw [if_neg ji]
       by_cases p1 : par j = par i
       ·rw [if_pos p1]
        have := h.at_ j j0 jl ji
        rw [p1] at this
        exact le_trans hle this
       ·rw [if_neg p1]
        by_cases p2 : par j = i
        ·rw [if_pos p2]
         exact h.kid j j0 jl p2 (by omega)
        ·rw [if_neg p2]
         exact h.at_ j j0 jl ji
     ·intro j j0 jl jp pp
      rw [swap_len] at jl
      have hj := par_lt j0
      have hpp := par_lt pp
      rw [g (par (par i)), g j, if_neg (by omega), if_neg (by omega), if_neg (by omega)]
      have h1 := h.at_ (par i) pp hpl (by omega)
      by_cases ji : j = i
      ·rw [if_pos ji]
       exact h1
      ·rw [if_neg ji]
       have h2 := h.at_ j j0 jl ji
       rw [jp] at h2
       exact le_trans h1 h2
    have r := ih (par i) (swap l i (par i)) (by rw [swap_len]; exact hpl) (by omega) hinv
    exact ⟨r.1, r.2.trans (swap_perm hi hpl)⟩
   ·rw [if_neg hl]
    refine ⟨fun j j0 jl => ?_, List.Perm.refl _⟩
    by_cases ji : j = i
    ·subst ji
     exact le_not (by simpa using hl)
    ·exact h.at_ j j0 jl ji
theorem up_len : ∀ (f i : Nat) (l : List E), (upF f i l).length = l.length := by
 intro f
 induction f with
 | zero => intro i l; rfl
 | succ f ih =>
  intro i l
  unfold upF
  split
  ·rfl
  ·split
   ·rw [ih, swap_len]
   ·rfl
def leastA (l : List E) (i : Nat) : Nat := if 2 * i + 1 < l.length ∧ lt (gt l (2 * i + 1)) (gt l i) = true then 2 * i + 1 else i
def least (l : List E) (i : Nat) : Nat := if 2 * i + 2 < l.length ∧ lt (gt l (2 * i + 2)) (gt l (leastA l i)) = true then 2 * i + 2 else leastA l i
theorem least_spec (l : List E) (i : Nat) (hi : i < l.length) : (least l i = i ∨ least l i = 2 * i + 1 ∨ least l i = 2 * i + 2) ∧ least l i < l.length ∧ le (gt l (least l i)) (gt l i) ∧ ∀ j, 0 < j → j < l.length → par j = i → le (gt l (least l i)) (gt l j) := by
 have kids : ∀ j, 0 < j → par j = i → j = 2 * i + 1 ∨ j = 2 * i + 2 := by
  intro j j0 jp
  unfold par at jp
  omega
 have hA : (leastA l i = i ∨ leastA l i = 2 * i + 1) ∧ leastA l i < l.length ∧ le (gt l (leastA l i)) (gt l i) ∧ (2 * i + 1 < l.length → le (gt l (leastA l i)) (gt l (2 * i + 1))) := by
  unfold leastA
  by_cases q : 2 * i + 1 < l.length ∧ lt (gt l (2 * i + 1)) (gt l i) = true
  ·rw [if_pos q]
   exact ⟨.inr rfl, q.1, le_lt q.2, fun _ => le_refl _⟩
  ·rw [if_neg q]
   exact ⟨.inl rfl, hi, le_refl _, fun r => le_not (by have : ¬ lt (gt l (2 * i + 1)) (gt l i) = true := fun z => q ⟨r, z⟩; simpa using this)⟩
 unfold least
 by_cases q : 2 * i + 2 < l.length ∧ lt (gt l (2 * i + 2)) (gt l (leastA l i)) = true
 ·rw [if_pos q]
  have hle := le_lt q.2
  refine ⟨.inr (.inr rfl), q.1, le_trans hle hA.2.2.1, fun j j0 jl jp => ?_⟩
  rcases kids j j0 jp with rfl | rfl
  ·exact le_trans hle (hA.2.2.2 jl)
  ·exact le_refl _
 ·rw [if_neg q]
  refine ⟨hA.1.elim .inl (fun r => .inr (.inl r)), hA.2.1, hA.2.2.1, fun j j0 jl jp => ?_⟩
  rcases kids j j0 jp with rfl | rfl
  ·exact hA.2.2.2 jl
  ·exact le_not (by have : ¬ lt (gt l (2 * i + 2)) (gt l (leastA l i)) = true := fun z => q ⟨jl, z⟩; simpa using this)
structure DownI (l : List E) (i : Nat) : Prop where
 at_ : ∀ j, 0 < j → j < l.length → par j ≠ i → le (gt l (par j)) (gt l j)
 kid : ∀ j, 0 < j → j < l.length → par j = i → 0 < i → le (gt l (par i)) (gt l j)
def downF : Nat → Nat → List E → List E
 | 0, _, l => l
 | f + 1, i, l => if least l i = i then l else downF f (least l i) (swap l i (least l i))
theorem down_ok : ∀ (f i : Nat) (l : List E), i < l.length → l.length - i < f → DownI l i → Ok (downF f i l) ∧ (downF f i l).Perm l := by
 intro f
 induction f with
 | zero => intro i l _ h _; omega
 | succ f ih =>
  intro i l hi hf h
  obtain ⟨hk, hkl, hki, hkk⟩ := least_spec l i hi
  unfold downF
  by_cases hl : least l i = i
  ·rw [if_pos hl]
   rw [hl] at hkk
   refine ⟨fun j j0 jl => ?_, List.Perm.refl _⟩
   by_cases jp : par j = i
   ·rw [jp]; exact hkk j j0 jl jp
   ·exact h.at_ j j0 jl jp
  ·rw [if_neg hl]
   generalize least l i = k at *
   have hik : i < k := by omega
   have hpk : par k = i := by unfold par; omega
   have g := gt_swap hi hkl
   have hinv : DownI (swap l i k) k := by
    constructor
    ·intro j j0 jl jp
     rw [swap_len] at jl
     have hj := par_lt j0
     rw [g (par j), g j, if_neg jp]
     by_cases jk : j = k
     ·subst jk
      rw [if_pos hpk, if_pos rfl]
      exact hki
     ·rw [if_neg jk]
      by_cases pi : par j = i
      ·rw [if_pos pi, if_neg (by omega)]
       exact hkk j j0 jl pi
      ·rw [if_neg pi]
       by_cases ji : j = i
       ·rw [if_pos ji]
        subst ji
        exact h.kid k (by omega) hkl hpk j0
       ·rw [if_neg ji]
        exact h.at_ j j0 jl pi
    ·intro j j0 jl jp k0
     rw [swap_len] at jl
     have hj := par_lt j0
     rw [g (par k), g j, hpk, if_neg (by omega), if_pos rfl, if_neg (by omega), if_neg (by omega)]
     have := h.at_ j j0 jl (by omega)
     rw [jp] at this
     exact this
   have r := ih k (swap l i k) (by rw [swap_len]; exact hkl) (by rw [swap_len]; omega) hinv
   exact ⟨r.1, r.2.trans (swap_perm hi hkl)⟩
theorem first {l : List E} (h : Ok l) : ∀ j, j < l.length → le (gt l 0) (gt l j) := by
 intro j
 induction j using Nat.strongRecOn with
 | ind j ih =>
  intro jl
  rcases Nat.eq_zero_or_pos j with rfl | j0
  ·exact le_refl _
  ·have hp := par_lt j0
   exact le_trans (ih _ hp (by omega)) (h j j0 jl)
def pushL (l : List E) (e : E) : List E := upF (l.length + 1) l.length (l ++ [e])
theorem gt_app {l : List E} {e : E} {j : Nat} (h : j < l.length) : gt (l ++ [e]) j = gt l j := by
 unfold gt
 rw [List.getD_eq_getElem?_getD, List.getD_eq_getElem?_getD, List.getElem?_append_left h]
theorem push_ok {l : List E} (h : Ok l) (e : E) : Ok (pushL l e) ∧ (pushL l e).Perm (e :: l) := by
 have hinv : UpI (l ++ [e]) l.length := by
  constructor
  ·intro j j0 jl jn
   have jl' : j < l.length := by simp at jl; omega
   have hp := par_lt j0
   rw [gt_app (by omega), gt_app jl']
   exact h j j0 jl'
  ·intro j j0 jl jp i0
   have hp := par_lt j0
   simp at jl
   omega
 have r := up_ok (l.length + 1) l.length (l ++ [e]) (by simp) (by omega) hinv
 exact ⟨r.1, r.2.trans (List.perm_append_comm (l₁ := l) (l₂ := [e]))⟩
def popL (l : List E) : List E := downF (l.length - 1 + 1) 0 ((l.set 0 (gt l (l.length - 1))).take (l.length - 1))
theorem pop_perm {l : List E} (hl : 0 < l.length) : (gt l 0 :: (l.set 0 (gt l (l.length - 1))).take (l.length - 1)).Perm l := by
 match l, hl with
 | a :: t, _ =>
  rcases List.eq_nil_or_concat t with rfl | ⟨t', z, rfl⟩
  ·simp [gt]
  ·rw [List.concat_eq_append]
   have hz : gt (a :: (t' ++ [z])) ((a :: (t' ++ [z])).length - 1) = z := by
    unfold gt
    rw [List.getD_eq_getElem?_getD]
    simp
   rw [hz]
   have e : ((a :: (t' ++ [z])).set 0 z).take ((a :: (t' ++ [z])).length - 1) = z :: t' := by
    simp
   rw [e]
   show (a :: z :: t').Perm (a :: (t' ++ [z]))
   exact List.Perm.cons a (List.perm_append_comm (l₁ := [z]) (l₂ := t'))
theorem pop_ok {l : List E} (h : Ok l) (hl : 0 < l.length) : Ok (popL l) ∧ (gt l 0 :: popL l).Perm l := by
 have hlen : ((l.set 0 (gt l (l.length - 1))).take (l.length - 1)).length = l.length - 1 := by simp
 have hat : ∀ j, 0 < j → j < l.length - 1 → gt ((l.set 0 (gt l (l.length - 1))).take (l.length - 1)) j = gt l j := by
  intro j j0 jl
  unfold gt
  simp only [List.getD_eq_getElem?_getD]
  rw [List.getElem?_take, if_pos jl, List.getElem?_set, if_neg (by omega)]
 have hp := pop_perm hl
 unfold popL
 generalize hm : (l.set 0 (gt l (l.length - 1))).take (l.length - 1) = m at *
 by_cases h1 : m.length = 0
 ·obtain rfl := List.eq_nil_of_length_eq_zero h1
  have e : downF (l.length - 1 + 1) 0 ([] : List E) = [] := by
   unfold downF
   rw [if_pos (by simp [least, leastA])]
  rw [e]
  exact ⟨fun j j0 jl => absurd jl (by simp), hp⟩
 ·have hinv : DownI m 0 := by
   constructor
   ·intro j j0 jl jp
    have hj := par_lt j0
    rw [hat (par j) (by omega) (by omega), hat j j0 (by omega)]
    exact h j j0 (by omega)
   ·intro j _ _ _ i0
    omega
  have r := down_ok (l.length - 1 + 1) 0 m (by omega) (by omega) hinv
  exact ⟨r.1, (List.Perm.cons _ r.2).trans hp⟩
end Go.Proofs.YthgehdembghdaaaGreat.Heap
