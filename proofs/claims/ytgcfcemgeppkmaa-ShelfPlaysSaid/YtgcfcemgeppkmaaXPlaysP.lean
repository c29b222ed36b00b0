/-
  PLAIN: the shelf and the document's shelf, side by side: what both tell of a call is the same.
-/
import Derived.Test.YtgcfcemgeppkmaaXRef18
namespace Go.Proofs.Ytgcfcemgeppkmaa.P
open Go.RowKit Go.Proofs.Ytgcfcemgeppkmaa.Ord Go.Proofs.Ytgcfcemgeppkmaa.Dist
set_option linter.unusedVariables false
def rpOf (ks : Nat → Int × Int) (kps : List Kept) (i : Nat) : RP := ⟨(ks i).1, (ks i).2, (kps.getD i default).ver, (kps.getD i default).seeds, (kps.getD i default).dist, (kps.getD i default).dirs⟩
/-- The two shelves keep the same, in the same order. -/
structure PairI (n : Nat) (ks : Nat → Int × Int) (ord : List Nat) (kps : List Kept) (Z : List (Rv × RP)) : Prop where
  same : Z.map (·.2) = ord.map (rpOf ks kps)
  nodup : ord.Nodup
  all : ∀ i, i ∈ ord ↔ i < n
  keys : ∀ i j, i < n → j < n → ks i = ks j → i = j
theorem fold_none (a b ver : Int) (s : List Seed) : ∀ (Z : List (Rv × RP)) (st : AS), (∀ z, z ∈ Z → z.2.a ≠ a ∨ z.2.b ≠ b) → Z.foldl (askStep a b ver s) st = { st with rest := st.rest ++ Z } := by
  intro Z
  induction Z with
  | nil => intro st _; simp
  | cons z Z ih =>
    intro st h
    rw [List.foldl_cons, ih _ (fun y hy => h y (List.mem_cons_of_mem _ hy))]
    unfold askStep
    rw [if_pos (h z List.mem_cons_self)]
    simp
theorem fold_one (a b ver : Int) (s : List Seed) (x : Rv × RP) (Z1 Z2 : List (Rv × RP)) (z : Rv × RP) (h1 : ∀ y, y ∈ Z1 → y.2.a ≠ a ∨ y.2.b ≠ b) (h2 : ∀ y, y ∈ Z2 → y.2.a ≠ a ∨ y.2.b ≠ b) (hz : z.2.a = a ∧ z.2.b = b) :
    askF a b ver s x (Z1 ++ z :: Z2) = if z.2.ver = ver ∧ z.2.seeds = s then ⟨true, true, Z1 ++ Z2, z⟩ else ⟨true, false, Z1 ++ Z2, x⟩ := by
  unfold askF
  rw [List.foldl_append, fold_none a b ver s Z1 _ h1, List.foldl_cons, fold_none a b ver s Z2 _ h2]
  unfold askStep
  rw [if_neg (by simp [hz.1, hz.2])]
  split <;> simp
theorem getD_pres {kps kps' : List Kept} {ks ks' : Nat → Int × Int} {i : Nat} (h1 : kps'.getD i default = kps.getD i default) (h2 : ks' i = ks i) : rpOf ks' kps' i = rpOf ks kps i := by
  unfold rpOf
  rw [h1, h2]
theorem erase_mid {l1 l2 : List Nat} {x : Nat} (h : (l1 ++ x :: l2).Nodup) : (l1 ++ x :: l2).erase x = l1 ++ l2 := by
  have hn : x ∉ l1 := fun hx => by
    obtain ⟨_, _, h3⟩ := List.nodup_append.1 h
    exact h3 x hx x List.mem_cons_self rfl
  rw [List.erase_append_right _ hn, List.erase_cons_head]
theorem last_of : ∀ l : List Nat, l ≠ [] → ∃ (pre : List Nat) (x : Nat), l = pre ++ [x] ∧ lastI l = (x : Int)
  | [], h => absurd rfl h
  | [x], _ => ⟨[], x, rfl, rfl⟩
  | x :: y :: r, _ => by
    obtain ⟨pre, z, e, hl⟩ := last_of (y :: r) (by simp)
    exact ⟨x :: pre, z, by rw [e]; rfl, hl⟩
/-- Both tell the same, and keep the same. -/
theorem GotS.plays {n : Nat} {k : Int} {ks : Nat → Int × Int} {ord : List Nat} {kps : List Kept} {c : Cnt} {a b ver : Int} {s : List Seed} {Dst Drs : List Int} {n' : Nat} {ks' : Nat → Int × Int} {ord' : List Nat} {kps' : List Kept} {c' : Cnt} {dist dirs : List Int} {slot : Nat} {had out : Bool} (h : GotS n k ks ord kps c a b ver s Dst Drs n' ks' ord' kps' c' dist dirs slot had out)
    {Z : List (Rv × RP)} (hP : PairI n ks ord kps Z) (hk : (n : Int) ≤ k) (hk1 : 1 ≤ k) (hnd' : ord'.Nodup) (hall' : ∀ i, i ∈ ord' ↔ i < n') (hkeys' : ∀ i j, i < n' → j < n' → ks' i = ks' j → i = j) (x0 : Rv) {st : AS} (hst : st = askF a b ver s (x0, ⟨a, b, ver, s, Dst, Drs⟩) Z) :
    st.x.2.dist = dist ∧ st.x.2.dirs = dirs ∧ PairI n' ks' ord' kps' (st.x :: askR k st) ∧ askC k st c = c' := by
  have hlenZ : Z.length = ord.length := by have := congrArg List.length hP.same; simpa using this
  have hordn : ord.length = n := by
    have hp : ord.Perm (List.range n) := (List.perm_ext_iff_of_nodup hP.nodup List.nodup_range).2 fun i => by rw [hP.all i, List.mem_range]
    simpa using hp.length_eq
  have key : st.x.2.dist = dist ∧ st.x.2.dirs = dirs ∧ (st.x :: askR k st).map (·.2) = ord'.map (rpOf ks' kps') ∧ askC k st c = c' := by
    cases had with
    | true =>
      obtain ⟨u1, u2, u3, u4, u5, u6⟩ := h.used.hit rfl
      subst u3
      obtain ⟨pre, post, ho⟩ := List.append_of_mem ((hP.all slot).2 u1)
      have hs := hP.same
      rw [ho, List.map_append, List.map_cons] at hs
      obtain ⟨Z1, Zr, hZ, hZ1, hZr⟩ := List.map_eq_append_iff.1 hs
      obtain ⟨z, Z2, hZr', hz, hZ2⟩ := List.map_eq_cons_iff.1 hZr
      subst hZr'
      subst hZ
      have hnd := hP.nodup
      rw [ho] at hnd
      have hne : ∀ i, i ∈ pre ∨ i ∈ post → i ≠ slot ∧ i < n := fun i hi => by
        obtain ⟨h1, h2, h3⟩ := List.nodup_append.1 hnd
        refine ⟨fun e => ?_, (hP.all i).1 (by rw [ho]; rcases hi with hi | hi <;> simp [hi])⟩
        subst e
        rcases hi with hi | hi
        · exact h3 _ hi _ List.mem_cons_self rfl
        · exact (List.nodup_cons.1 h2).1 hi
      have hno : ∀ i, i ∈ pre ∨ i ∈ post → (rpOf ks kps i).a ≠ a ∨ (rpOf ks kps i).b ≠ b := fun i hi => by
        have h1 := hne i hi
        have h2 : ks i ≠ (a, b) := fun e => h1.1 (hP.keys i slot h1.2 u1 (by rw [e, u2]))
        by_cases e : (ks i).1 = a
        · exact .inr (fun e2 => h2 (Prod.ext e e2))
        · exact .inl e
      have hm1 : ∀ y, y ∈ Z1 → y.2.a ≠ a ∨ y.2.b ≠ b := fun y hy => by
        have h1 : y.2 ∈ pre.map (rpOf ks kps) := by rw [← hZ1]; exact List.mem_map.2 ⟨y, hy, rfl⟩
        obtain ⟨i, hi, e⟩ := List.mem_map.1 h1
        rw [← e]
        exact hno i (.inl hi)
      have hm2 : ∀ y, y ∈ Z2 → y.2.a ≠ a ∨ y.2.b ≠ b := fun y hy => by
        have h1 : y.2 ∈ post.map (rpOf ks kps) := by rw [← hZ2]; exact List.mem_map.2 ⟨y, hy, rfl⟩
        obtain ⟨i, hi, e⟩ := List.mem_map.1 h1
        rw [← e]
        exact hno i (.inr hi)
      have hza : z.2.a = a ∧ z.2.b = b := by rw [hz]; unfold rpOf; rw [u2]; exact ⟨rfl, rfl⟩
      have hf := fold_one a b ver s (x0, ⟨a, b, ver, s, Dst, Drs⟩) Z1 Z2 z hm1 hm2 hza
      rw [← hst] at hf
      have ho' : ord' = slot :: (pre ++ post) := by rw [u6, ho, erase_mid hnd]
      have hzv : z.2.ver = (kps.getD slot default).ver ∧ z.2.seeds = (kps.getD slot default).seeds ∧ z.2.dist = (kps.getD slot default).dist ∧ z.2.dirs = (kps.getD slot default).dirs := by rw [hz]; exact ⟨rfl, rfl, rfl, rfl⟩
      by_cases hr : (kps.getD slot default).ver = ver ∧ (kps.getD slot default).seeds = s
      · rw [if_pos (by rw [hzv.1, hzv.2.1]; exact hr)] at hf
        subst hf
        obtain ⟨e1, e2, e3, e4⟩ := h.hit rfl hr.1 hr.2
        refine ⟨by rw [e1]; exact hzv.2.2.1, by rw [e2]; exact hzv.2.2.2, ?_, ?_⟩
        · unfold askR
          simp only [if_pos]
          rw [ho', List.map_cons, List.map_cons, List.map_append, List.map_append, hZ1, hZ2, hz, u5]
          have hg : ∀ i, i < n → rpOf ks kps' i = rpOf ks kps i := fun i hi => getD_pres (e3 i hi) rfl
          rw [hg slot u1, List.map_congr_left (l := pre) (fun i hi => hg i (hne i (.inl hi)).2), List.map_congr_left (l := post) (fun i hi => hg i (hne i (.inr hi)).2)]
        · unfold askC
          simp only [if_pos]
          exact e4.symm
      · rw [if_neg (by rw [hzv.1, hzv.2.1]; exact hr)] at hf
        subst hf
        obtain ⟨e1, e2, e3, e4, e5⟩ := h.build (fun e => hr e.2)
        refine ⟨e1.symm, e2.symm, ?_, ?_⟩
        · unfold askR
          simp only [if_pos, Bool.false_eq_true, if_false]
          rw [ho', List.map_cons, List.map_cons, List.map_append, List.map_append, hZ1, hZ2, u5]
          have hg : ∀ i, i ≠ slot ∧ i < n → rpOf ks kps' i = rpOf ks kps i := fun i hi => getD_pres (e4 i hi.2 hi.1) rfl
          rw [List.map_congr_left (l := pre) (fun i hi => hg i (hne i (.inl hi))), List.map_congr_left (l := post) (fun i hi => hg i (hne i (.inr hi)))]
          have hsl : rpOf ks kps' slot = ⟨a, b, ver, s, Dst, Drs⟩ := by unfold rpOf; rw [e3, u2]
          rw [hsl]
        · unfold askC
          simp only [if_pos, Bool.false_eq_true, if_false]
          rw [e5]
          simp
    | false =>
      obtain ⟨m1, m2⟩ := h.used.miss rfl
      have hno : ∀ y, y ∈ Z → y.2.a ≠ a ∨ y.2.b ≠ b := fun y hy => by
        have h1 : y.2 ∈ ord.map (rpOf ks kps) := by rw [← hP.same]; exact List.mem_map.2 ⟨y, hy, rfl⟩
        obtain ⟨i, hi, e⟩ := List.mem_map.1 h1
        rw [← e]
        have h2 := m1 i ((hP.all i).1 hi)
        by_cases e1 : (ks i).1 = a
        · exact .inr (fun e2 => h2 (Prod.ext e1 e2))
        · exact .inl e1
      have hf : st = ⟨false, false, Z, (x0, ⟨a, b, ver, s, Dst, Drs⟩)⟩ := by
        rw [hst]
        unfold askF
        rw [fold_none a b ver s Z _ hno]
        simp
      subst hf
      obtain ⟨e1, e2, e3, e4, e5⟩ := h.build (fun e => by simp at e)
      refine ⟨e1.symm, e2.symm, ?_, ?_⟩
      · unfold askR
        simp only [Bool.false_eq_true, if_false]
        by_cases hf : (n : Int) < k
        · obtain ⟨f1, f2, f3, f4⟩ := h.used.fresh rfl hf
          rw [if_neg (by omega), List.map_cons, f4, List.map_cons, hP.same]
          subst f1
          have hsl : rpOf ks' kps' slot = ⟨a, b, ver, s, Dst, Drs⟩ := by unfold rpOf; rw [e3, m2, if_pos rfl]
          rw [hsl]
          congr 1
          refine List.map_congr_left (fun i hi => (getD_pres (e4 i ((hP.all i).1 hi) (by have := (hP.all i).1 hi; omega)) ?_).symm)
          rw [m2, if_neg (by have := (hP.all i).1 hi; omega)]
        · obtain ⟨f1, f2, f3, f4, f5⟩ := h.used.evict rfl hf
          have hkn : k = (n : Int) := by omega
          have hn1 : 1 ≤ n := by omega
          rw [if_pos (by omega)]
          have hne : ord ≠ [] := fun e => by rw [e] at hordn; simp at hordn; omega
          obtain ⟨pre, y, hpre, hly⟩ := last_of ord hne
          have hlast : slot = y := by omega
          rw [← hlast] at hpre
          have hnd := hP.nodup
          rw [hpre] at hnd
          have hns : ∀ i, i ∈ pre → i ≠ slot ∧ i < n := fun i hi => by
            obtain ⟨_, _, h3⟩ := List.nodup_append.1 hnd
            exact ⟨fun e => h3 i hi slot (by simp) e, (hP.all i).1 (by rw [hpre]; simp [hi])⟩
          have ho' : ord' = slot :: pre := by rw [f5, hpre, erase_mid hnd, List.append_nil]
          have hpl : pre.length = n - 1 := by have := hordn; rw [hpre] at this; simp at this; omega
          have hsl : rpOf ks' kps' slot = ⟨a, b, ver, s, Dst, Drs⟩ := by unfold rpOf; rw [e3, m2, if_pos rfl]
          rw [ho', List.map_cons, List.map_cons, hsl, List.map_take, hP.same, hpre, List.map_append, List.take_append_of_le_length (by rw [List.length_map]; omega), List.take_of_length_le (by rw [List.length_map]; omega)]
          congr 1
          exact List.map_congr_left (fun i hi => (getD_pres (e4 i (hns i hi).2 (hns i hi).1) (by rw [m2, if_neg (hns i hi).1])).symm)
      · unfold askC
        simp only [Bool.false_eq_true, if_false]
        rw [e5]
        by_cases hf : (n : Int) < k
        · obtain ⟨f1, f2, f3, f4⟩ := h.used.fresh rfl hf
          rw [if_neg (by omega), f2]
          simp
        · obtain ⟨f1, f2, f3, f4, f5⟩ := h.used.evict rfl hf
          rw [if_pos (by omega), f3]
          simp
  exact ⟨key.1, key.2.1, ⟨key.2.2.1, hnd', hall', hkeys'⟩, key.2.2.2⟩
end Go.Proofs.Ytgcfcemgeppkmaa.P
