/-
 PLAIN: a binary search in a rising list; what a mesh tells of two cells, and of one.
-/
import Derived.Test.YthgehdembghdaaaGreatXMesh3
import Derived.Test.YthgehdembghdaaaGreatPx6
namespace Go.Proofs.YthgehdembghdaaaGreat.P
open Go.RowKit Go.Proofs.YthgehdembghdaaaGreatW.PrintWords Go.Proofs.YthgehdembghdaaaGreatW.PrintLast Go.Proofs.YthgehdembghdaaaGreatW.PrintMore
open Go.Proofs.YthgehdembghdaaaGreat.Geo Go.Proofs.YthgehdembghdaaaGreat.Dist
set_option linter.unusedVariables false
set_option linter.unusedSimpArgs false
theorem less_some (a b : Int) : cmp_Less_int.f a b = some (decide (a < b)) := by simp [cmp_Less_int.f, cmp_isNaN_int.f]
theorem nan_some (a : Int) : slices_isNaN_int.f a = some false := by simp [slices_isNaN_int.f]
theorem rising {l : List Int} (hs : l.Pairwise (· < ·)) {a b : Nat} (hab : a < b) (hb : b < l.length) : rd l (a : Int) < rd l (b : Int) := by
 rw [rd_get l (by omega), rd_get l hb]
 exact List.pairwise_iff_getElem.1 hs a b (by omega) hb hab
theorem mem_rd {l : List Int} {x : Int} : x ∈ l ↔ ∃ p : Nat, p < l.length ∧ rd l (p : Int) = x := by
 rw [List.mem_iff_getElem]
 constructor
 ·rintro ⟨p, hp, e⟩
  exact ⟨p, hp, by rw [rd_get l hp]; exact e⟩
 ·rintro ⟨p, hp, e⟩
  exact ⟨p, hp, by rw [rd_get l hp] at e; exact e⟩
theorem search_l {l : List Int} (hs : l.Pairwise (· < ·)) (hl : l.length ≤ 1000000) (x : Int) : ∀ (d lo hi k : Nat), hi - lo ≤ d → lo ≤ hi → hi ≤ l.length → (∀ t : Nat, t < lo → rd l (t : Int) < x) → (∀ t : Nat, hi ≤ t → t < l.length → x ≤ rd l (t : Int)) → d < k → ∃ p : Nat, slices_BinarySearch_int_int.l0 k l x (l.length : Int) (lo : Int) (hi : Int) = some ((p : Int), decide (x ∈ l)) ∧ (x ∈ l → p < l.length ∧ rd l (p : Int) = x) := by
 intro d
 induction d with
 | zero =>
  intro lo hi k hd hle hhi h1 h2 hk
  obtain ⟨k, rfl⟩ : ∃ q, k = q + 1 := ⟨k - 1, by omega⟩
  obtain rfl : lo = hi := by omega
  have key : x ∈ l → lo < l.length ∧ rd l (lo : Int) = x := by
   intro hm
   obtain ⟨t, ht, e⟩ := mem_rd.1 hm
   rcases Nat.lt_trichotomy t lo with q | q | q
   ·have := h1 t q; omega
   ·subst q; exact ⟨ht, e⟩
   ·have := rising hs q ht
    have := h2 lo (Nat.le_refl _) (by omega)
    omega
  refine ⟨lo, ?_, key⟩
  rw [slices_BinarySearch_int_int.l0, if_neg (by omega)]
  by_cases q : lo < l.length
  ·rw [if_pos (by omega), if_pos (by omega), if_pos (by omega)]
   by_cases e : rd l (lo : Int) = x
   ·rw [if_pos e, decide_eq_true (mem_rd.2 ⟨lo, q, e⟩)]
   ·rw [if_neg e, nan_some, Option.bind_some, if_neg (by decide), decide_eq_false (fun hm => e (key hm).2)]
  ·rw [if_neg (by omega), decide_eq_false (fun hm => q (key hm).1)]
 | succ d ih =>
  intro lo hi k hd hle hhi h1 h2 hk
  obtain ⟨k, rfl⟩ : ∃ q, k = q + 1 := ⟨k - 1, by omega⟩
  by_cases q : lo < hi
  ·have hm : wrap64 ((IntKind.u64.wrap (wrap64 ((lo : Int) + (hi : Int)))) / 2) = (((lo + hi) / 2 : Nat) : Int) := by
    rw [w64 (n := (lo : Int) + (hi : Int)) (by omega) (by omega), IntKind.wrap_u64, w64 (by omega) (by omega)]
    omega
   obtain ⟨md, hmd⟩ : ∃ md, md = (lo + hi) / 2 := ⟨_, rfl⟩
   rw [slices_BinarySearch_int_int.l0, if_pos (by omega), hm, ← hmd, if_pos (by omega), if_pos (by omega), less_some, Option.bind_some]
   by_cases e : rd l (md : Int) < x
   ·rw [if_pos (by simpa using e), w64 (n := (md : Int) + 1) (by omega) (by omega), show (md : Int) + 1 = ((md + 1 : Nat) : Int) by omega]
    refine ih (md + 1) hi k (by omega) (by omega) hhi (fun t ht => ?_) h2 (by omega)
    rcases Nat.lt_or_ge t md with c | c
    ·have := rising hs c (by omega); omega
    ·obtain rfl : t = md := by omega
     exact e
   ·rw [if_neg (by simpa using e)]
    refine ih lo md k (by omega) (by omega) (by omega) h1 (fun t ht htl => ?_) (by omega)
    rcases Nat.lt_or_ge md t with c | c
    ·have := rising hs c htl; omega
    ·obtain rfl : t = md := by omega
     omega
  ·exact ih lo hi (k + 1) (by omega) hle hhi h1 h2 (by omega)
theorem search_some {l : List Int} (hs : l.Pairwise (· < ·)) (hl : l.length ≤ 1000000) (x : Int) : ∃ p : Nat, slices_BinarySearch_int_int.f (l.length + 1) l x = some ((p : Int), decide (x ∈ l)) ∧ (x ∈ l → p < l.length ∧ rd l (p : Int) = x) :=
 search_l hs hl x l.length 0 l.length (l.length + 1) (by omega) (by omega) (Nat.le_refl _) (fun t ht => absurd ht (Nat.not_lt_zero _)) (fun t h1 h2 => by omega) (by omega)
def idx (l : List Int) (c : Int) : Nat := l.idxOf c
theorem idx_lt' {l : List Int} {c : Int} (h : c ∈ l) : idx l c < l.length := List.idxOf_lt_length_of_mem h
theorem idx_rd {l : List Int} {c : Int} (h : c ∈ l) : rd l (idx l c : Int) = c := by
 rw [rd_get l (idx_lt' h)]
 exact List.getElem_idxOf _
theorem idx_eq {l : List Int} (hs : l.Pairwise (· < ·)) {p : Nat} (hp : p < l.length) {c : Int} (e : rd l (p : Int) = c) : p = idx l c := by
 have hm : c ∈ l := mem_rd.2 ⟨p, hp, e⟩
 have h1 := idx_lt' hm
 have h2 := idx_rd hm
 rcases Nat.lt_trichotomy p (idx l c) with q | q | q
 ·have := rising hs q h1; omega
 ·exact q
 ·have := rising hs q hp; omega
def partC (s : GridS) (x : MeshS) (c : Int) : Part := x.ps.getD (sec s.W c).toNat default
def inC (s : GridS) (c : Int) : Prop := 0 ≤ c ∧ c < s.W * s.H
instance (s : GridS) (c : Int) : Decidable (inC s c) := inferInstanceAs (Decidable (_ ∧ _))
def isNode (s : GridS) (x : MeshS) (c : Int) : Prop := inC s c ∧ c ∈ (partC s x c).nodes
instance (s : GridS) (x : MeshS) (c : Int) : Decidable (isNode s x c) := inferInstanceAs (Decidable (_ ∧ _))
def d64 (e : Int) : Int := if e = -1 then INF else e
def pairD (y : Part) (i j : Nat) : Int := d64 (rd y.dist ((i * y.nodes.length + j : Nat) : Int))
structure PartG (y : Part) : Prop where
 rise : y.nodes.Pairwise (· < ·)
 dist : ∀ k : Nat, k < y.dist.length → -1 ≤ rd y.dist (k : Int) ∧ rd y.dist (k : Int) ≤ 65024
def Good (x : MeshS) : Prop := ∀ i, PartG (x.ps.getD i default)
theorem PartG.zero : PartG default := ⟨List.Pairwise.nil, fun k hk => absurd hk (Nat.not_lt_zero _)⟩
def ptrC (s : GridS) (m : Mb) (c : Int) : Option Addr := if inC s c then some ⟨m.pb, (sec s.W c).toNat * 3, none⟩ else none
theorem ptr_eq {s : GridS} {m : Mb} {a b : Int} (h : Dim s.W s.H) (ha : inC s a) (hb : inC s b) : ptrC s m a = ptrC s m b ↔ sec s.W a = sec s.W b := by
 have ra := sec_rng h ha.1 ha.2
 have rb := sec_rng h hb.1 hb.2
 unfold ptrC
 rw [if_pos ha, if_pos hb]
 constructor
 ·intro e
  injection e with e
  injection e with _ e _
  omega
 ·intro e
  rw [e]
end Go.Proofs.YthgehdembghdaaaGreat.P
