/-
  herdsmanref7.SortSeeds.
-/
import Derived.Test.YtgcfcemgeppkmaaXSort
import Derived.Test.YtgcfcemgeppkmaaXMay
import Derived.Test.YtgcfcemgeppkmaaPx8
import Derived.Deep.QuietTactic
import Derived.BigQuiet
import Derived.Deep.DeepCutAuto
import Derived.Deep.LoopGhost
import Derived.Deep.CutBlock
import Derived.Deep.RegionHeld3
namespace Go.Proofs.Ytgcfcemgeppkmaa.P
open Go.RowKit Go.Proofs.YtgcfcemgeppkmaaW.PrintWords Go.Proofs.YtgcfcemgeppkmaaW.PrintLast Go.Proofs.YtgcfcemgeppkmaaW.PrintMore
set_option linter.unusedVariables false
set_option linter.unusedSimpArgs false

attribute [local go_sem high] eqSeed
theorem insS_there (x : Seed) : ∀ (l : List Seed) (n : Nat) (hn : n < l.length), (∀ j, (hj : j < n) → ltS (l[j]'(by omega)) x = true) → l[n] = x → insS x l = l
  | [], n, hn, _, _ => by simp at hn
  | y :: r, 0, hn, _, e => by
    have e' : y = x := e
    subst e'
    unfold insS
    rw [if_neg (by rw [ltS_irrefl]; simp), if_pos rfl]
  | y :: r, n + 1, hn, h, e => by
    have h0 : ltS y x = true := h 0 (by omega)
    unfold insS
    rw [if_pos h0, insS_there x r n (by simpa using hn) (fun j hj => h (j + 1) (by omega)) e]
theorem insS_new (x : Seed) : ∀ (l : List Seed) (n : Nat), n ≤ l.length → (∀ j, (hj : j < n) → (hl : j < l.length) → ltS l[j] x = true) → ((hn : n < l.length) → ltS l[n] x = false ∧ l[n] ≠ x) → insS x l = l.take n ++ x :: l.drop n
  | [], n, hn, _, _ => by
    obtain rfl : n = 0 := by simpa using hn
    rfl
  | y :: r, 0, hn, _, e => by
    obtain ⟨e1, e2⟩ := e (by simp)
    have e1' : ltS y x = false := e1
    have e2' : y ≠ x := e2
    unfold insS
    rw [if_neg (by rw [e1']; simp), if_neg e2']
    rfl
  | y :: r, n + 1, hn, h, e => by
    have h0 : ltS y x = true := h 0 (by omega) (by simp)
    unfold insS
    rw [if_pos h0, insS_new x r n (by simpa using hn) (fun j hj hl => h (j + 1) (by omega) (by simpa using hl)) (fun hl => e (by simpa using hl))]
    rfl
theorem sortU_snoc (l : List Seed) (i : Nat) (hi : i < l.length) : sortU (l.take (i + 1)) = insS l[i] (sortU (l.take i)) := by
  rw [List.take_succ_eq_append_getElem hi]
  unfold sortU
  rw [List.foldl_append]
  rfl
theorem insS_le (x : Seed) : ∀ l : List Seed, (insS x l).length ≤ l.length + 1
  | [] => by simp [insS]
  | y :: r => by
    unfold insS
    have := insS_le x r
    split
    · simp; omega
    · split <;> simp
theorem sortU_lenS (l : List Seed) : (sortU l).length ≤ l.length := by
  have key : ∀ (l acc : List Seed), (l.foldl (fun acc x => insS x acc) acc).length ≤ acc.length + l.length := by
    intro l
    induction l with
    | nil => intro acc; simp
    | cons y r ih =>
      intro acc
      rw [List.foldl_cons]
      have h1 := ih (insS y acc)
      have h2 := insS_le y acc
      simp only [List.length_cons]
      omega
  have := key l []
  unfold sortU
  simpa using this
theorem before_some (a b : Seed) : herdsmanref7_before.f a.f0 a.f1 a.f2 b.f0 b.f1 b.f2 = some (ltS a b) := by
  unfold herdsmanref7_before.f ltS
  split
  · split
    · exact congrArg some (decide_eq_decide.2 (by omega))
    · exact congrArg some (decide_eq_decide.2 (by omega))
  · exact congrArg some (decide_eq_decide.2 (by omega))
theorem rdT_getR (xs : List Seed) {i : Nat} (h : i < xs.length) : rd_T25 xs (i : Int) = xs[i] := by
  unfold rd_T25
  rw [Int.toNat_natCast, List.getD_eq_getElem?_getD, List.getElem?_eq_getElem h]
  rfl
/-- The cells of one seed of a row that reads. -/
theorem seed_at {w : World} {A : Option Addr} {xs : List Seed} (h : Kd.C k25 w A xs.length xs) {i : Nat} (hi : i < xs.length) : ∃ ad, A = some ad ∧ w.cell? (ad.add (i * 3)) = some (.int .i64 xs[i].f0) ∧ w.cell? ⟨(ad.add (i * 3)).block, (ad.add (i * 3)).off + 1, none⟩ = some (.int .i64 xs[i].f1) ∧ w.cell? ⟨(ad.add (i * 3)).block, (ad.add (i * 3)).off + 2, none⟩ = some (.int .i64 xs[i].f2) := by
  have := at_T25 h (i : Int) (by omega) (by omega)
  rw [rdT_getR xs hi, Int.toNat_natCast] at this
  exact this
/-- An empty literal owns its block. -/
theorem R_box0 {W : World} {g base : Nat} (hb : W.heap[g]? = some (.cells #[] 25 (0, 0))) (hg : base ≤ g) : Kd.R k25 25 W base (fun _ => True) (.slice (some ⟨g, 0, none⟩) 0 0) [] :=
  rowS_R (w := W) (base := base) (B := g) (cap := 0) (l := []) ⟨#[], hb, rfl, Nat.le_refl _, fun j hj => by simp at hj⟩ hg (by unfold maxLen; omega)
/-- One seed in a box. -/
theorem C_box1 {W : World} {g : Nat} (x : Seed) (hb : W.heap[g]? = some (.cells #[.int .i64 x.f0, .int .i64 x.f1, .int .i64 x.f2] 25 (0, 0))) : Kd.C k25 W (some ⟨g, 0, none⟩) 1 [x] := by
  refine ⟨rfl, by omega, fun _ => ⟨_, rfl, fun j p hj => ?_⟩⟩
  obtain rfl : j = 0 := by
    have := (List.getElem?_eq_some_iff.1 hj).1
    simpa using this
  obtain rfl : x = p := by simpa using hj
  refine ⟨_, rfl, k25_mk W x, fun i u hu => ?_⟩
  have : i < 3 := (List.getElem?_eq_some_iff.1 hu).1
  have e : i = 0 ∨ i = 1 ∨ i = 2 := by omega
  rcases e with rfl | rfl | rfl
  · exact cell_blk hb (by simpa using hu)
  · exact cell_blk hb (by simpa using hu)
  · exact cell_blk hb (by simpa using hu)
theorem heap_at (w : World) (o : Obj) (k : Nat) (h : k = w.heap.size) : (w.alloc o).heap[k]? = some o := by
  subst h
  exact heap_alloc_new w o
/-- A box with something in it is not the block that an empty literal owned. -/
theorem box_kept {W w1 : World} {g : Nat} (h0 : W.heap[g]? = some (.cells #[] 25 (0, 0))) (hg : W.grownBy w1 (Value.slice (some ⟨g, 0, none⟩) 0 0).ownBlock) (b : Nat) (u v z : Value) (hb : W.heap[b]? = some (.cells #[u, v, z] 25 (0, 0))) : w1.heap[b]? = some (.cells #[u, v, z] 25 (0, 0)) :=
  (hg.block b (blk_lt hb) (fun e => by
    have : b = g := by simpa [Value.ownBlock] using e
    subst this
    rw [hb] at h0
    simp at h0)).trans hb

set_option maxRecDepth 100000 in
set_option maxHeartbeats 2000000 in
theorem refSort_calls (A0 : Option Addr) (c0 : Nat) (l0 : List Seed) (r : List Seed) (w : World) (hr0 : Kd.C k25 w A0 l0.length l0) (hc0 : l0.length ≤ c0) (h : seedsSortF l0 = some r) :
    Calls Try.prog 32 #[.slice A0 l0.length c0] w fun e w' => ∃ v0_ : Value, e = .returned (v0_) ∧ Kd.R k25 25 w' w.heap.size (fun _ => True) v0_ r ∧ Below w.heap.size w w' := by
  unfold seedsSortF at h
  by_cases hl : l0.length < 5864062014805
  · rw [if_pos hl] at h
    obtain rfl := Option.some.inj h
    clear h
    have HR0 := Aside0.mk hr0
    have HC0 := Aside0.mk hc0
    clear hr0 hc0
    go_enter Try.func32, Try.ntmps32
    go_wp2_with fail
    go_loopg [3, 4] l0.length (fun gg v3 v4 wr => ∃ i : Nat, v4 = .int .i64 i ∧ i ≤ l0.length ∧ l0.length - i ≤ gg ∧ Aside0 (Kd.R k25 25 wr w.heap.size (fun _ => True) v3 (sortU (l0.take i))) ∧ Aside0 (Below w.heap.size w wr))
    case atStart => exact ⟨0, rfl, Nat.zero_le _, Nat.le_refl _, ⟨Kd.R_nil _ _ _ _ _⟩, ⟨Below.refl _ _⟩⟩
    case round =>
      obtain ⟨wo, rfl⟩ : ∃ wo : World, wo = wr := ⟨_, rfl⟩
      obtain ⟨i, rfl, hi, hgg, HO, HB⟩ := hrel
      by_cases hlt : i < l0.length
      · have hlt2 : (i : Int) < (l0.length : Int) := by omega
        have hsn := sortU_snoc l0 i hlt
        have hlen := sortU_lenS (l0.take i)
        rw [List.length_take] at hlen
        obtain ⟨ad0, hA0, x0, x1, x2⟩ := seed_at (Kd.C_below HR0.out HB.out) hlt
        obtain ⟨out, ho⟩ : ∃ out, out = sortU (l0.take i) := ⟨_, rfl⟩
        obtain ⟨x, hx⟩ : ∃ x, x = l0[i] := ⟨_, rfl⟩
        rw [← ho] at hsn HO hlen
        rw [← hx] at hsn x0 x1 x2
        obtain ⟨A, c, rfl, hc, hC⟩ := Kd.R_reads HO.out
        have HSN := Aside0.mk hsn
        have HC := Aside0.mk hC
        subst hA0
        have hol : out.length + 1 < 5864062014805 := by omega
        clear ho hx hsn hC hlen
        go_upto_block 2 with (fail)
        go_cut [5] (fun v5 wc => ∃ a : Nat, v5 = .int .i64 a ∧ a ≤ out.length ∧ Aside0 (∀ j, (hj : j < a) → (hl : j < out.length) → ltS out[j] x = true) ∧ Aside0 ((hl : a < out.length) → ltS out[a] x = false) ∧ Aside0 (Below wo.heap.size wo wc))
        case first =>
          go_wp2_with fail
          go_loopg [5] out.length (fun gg v5 wi => ∃ a : Nat, v5 = .int .i64 a ∧ a ≤ out.length ∧ out.length - a ≤ gg ∧ Aside0 (∀ j, (hj : j < a) → (hl : j < out.length) → ltS out[j] x = true) ∧ Aside0 (Below wo.heap.size wo wi))
          case atStart => exact ⟨0, rfl, Nat.zero_le _, Nat.le_refl _, ⟨fun j hj => absurd hj (Nat.not_lt_zero _)⟩, ⟨Below.refl _ _⟩⟩
          case round =>
            obtain ⟨a, rfl, ha, hg2, HA, HBI⟩ := hrel
            by_cases hal : a < out.length
            · have hal2 : (a : Int) < (out.length : Int) := by omega
              have hald : decide ((a : Int) < (out.length : Int)) = true := decide_eq_true hal2
              obtain ⟨ad1, hA1, y0, y1, y2⟩ := seed_at (Kd.C_below HC.out HBI.out) hal
              subst hA1
              obtain ⟨y, hy⟩ : ∃ y, y = out[a] := ⟨_, rfl⟩
              rw [← hy] at y0 y1 y2
              have HY := Aside0.mk hy
              have z0 := pw_cell_below HBI.out x0
              have z1 := pw_cell_below HBI.out x1
              have z2 := pw_cell_below HBI.out x2
              obtain ⟨b, hb⟩ : ∃ b, b = ltS y x := ⟨_, rfl⟩
              have hcall := fun W => herdsmanref7_before.calls y.f0 y.f1 y.f2 x.f0 x.f1 x.f2 b W ((before_some y x).trans (congrArg some hb.symm))
              have HCALL := Aside0.mk hcall
              have HBB := Aside0.mk hb
              clear hy hb hcall x0 x1 x2
              go_wp2_with fail
              go_region_held3 (fun w' => w'.cell? (ad1.add (a * 3)) = some (.int .i64 y.f0) ∧ w'.cell? ⟨(ad1.add (a * 3)).block, (ad1.add (a * 3)).off + 1, none⟩ = some (.int .i64 y.f1) ∧ w'.cell? ⟨(ad1.add (a * 3)).block, (ad1.add (a * 3)).off + 2, none⟩ = some (.int .i64 y.f2) ∧ w'.cell? (ad0.add (i * 3)) = some (.int .i64 x.f0) ∧ w'.cell? ⟨(ad0.add (i * 3)).block, (ad0.add (i * 3)).off + 1, none⟩ = some (.int .i64 x.f1) ∧ w'.cell? ⟨(ad0.add (i * 3)).block, (ad0.add (i * 3)).off + 2, none⟩ = some (.int .i64 x.f2))
                (first | go_keep | (exact ⟨pw_cell_below HB2.out y0, pw_cell_below HB2.out y1, pw_cell_below HB2.out y2, pw_cell_below HB2.out z0, pw_cell_below HB2.out z1, pw_cell_below HB2.out z2⟩))
                (first | (go_at_call 77; refine (HCALL.out _).mono ?_; rintro e w2 ⟨rfl, hb2⟩; have HB2 := Aside0.mk hb2; clear hb2))
              have HB3 : Aside0 (Below wo.heap.size wo w2) := ⟨below_step (below_drew1 HBI.out) HB2.out⟩
              clear y0 y1 y2 z0 z1 z2
              cases b with
              | true =>
                go_wp2_with fail
                go_roundg (out.length - (a + 1))
                case measure => omega
                case rel =>
                  refine ⟨a + 1, by go_num, by omega, Nat.le_refl _, ⟨fun j hj hl => ?_⟩, HB3⟩
                  by_cases e : j = a
                  · subst e; rw [← HY.out, ← HBB.out]
                  · exact HA.out j (by omega) hl
              | false =>
                go_wp2_with fail
                go_meet
                exact ⟨a, rfl, by omega, HA, ⟨fun hl => by rw [← HY.out, ← HBB.out]⟩, HB3⟩
            · have hal2 : ¬ (a : Int) < (out.length : Int) := by omega
              have hald : decide ((a : Int) < (out.length : Int)) = false := decide_eq_false hal2
              clear x0 x1 x2
              go_wp2_with fail
              go_quiet (fail)
              go_wp2_with fail
              go_meet
              exact ⟨a, rfl, by omega, HA, ⟨fun hl => absurd hl hal⟩, ⟨pw_below_drewN HBI.out _⟩⟩
        case rest =>
          obtain ⟨a, rfl, ha, HA, HNB, HBI⟩ := hcut
          have z0 := pw_cell_below HBI.out x0
          have z1 := pw_cell_below HBI.out x1
          have z2 := pw_cell_below HBI.out x2
          obtain ⟨i25, hi25, _, hsz25, _⟩ := info_parts info25
          obtain ⟨A2, hA2⟩ : ∃ A2, (if c = a then A else A.map (·.add (a * 3))) = A2 := ⟨_, rfl⟩
          have hcut1 := cut_to (P := Try.prog) 22 25 .i64 Try.underlying22 hi25 A out.length c (a : Int) (by omega) (by omega) hc
          have hcut2 := cut_from (P := Try.prog) 22 25 .i64 Try.underlying22 hi25 3 hsz25 A out.length c (a : Int) (by omega) (by omega)
          simp only [Int.toNat_natCast] at hcut1 hcut2
          rw [hA2] at hcut2
          have hl1 : (out.take a).length = a := by rw [List.length_take]; omega
          have hl2 : (out.drop a).length = out.length - a := List.length_drop
          have HR47 : Aside0 (∀ W, Below wo.heap.size wo W → Kd.C k25 W A a (out.take a)) := ⟨fun W hb => by have := Kd.C_below (Kd.C_take HC.out ha) hb; rw [hl1] at this; exact this⟩
          have HR57 : Aside0 (∀ W, Below wo.heap.size wo W → Kd.C k25 W A2 (out.length - a) (out.drop a)) := ⟨fun W hb => by have := Kd.C_below (Kd.C_drop (m := a) (c := c) HC.out ha hc) hb; rw [hl2] at this; rw [← hA2]; exact this⟩
          have HL1 := Aside0.mk hl1
          have XC := Aside0.mk (And.intro x0 (And.intro x1 x2))
          clear x0 x1 x2 hi25 hsz25 hA2 hl1 hl2
          by_cases hal : a < out.length
          case' pos =>
            have hal2 : (a : Int) < (out.length : Int) := by omega
            have hald : decide ((a : Int) < (out.length : Int)) = true := decide_eq_true hal2
            obtain ⟨ad1, hA1, y0, y1, y2⟩ := seed_at (Kd.C_below HC.out HBI.out) hal
            subst hA1
            obtain ⟨y, hy⟩ : ∃ y, y = out[a] := ⟨_, rfl⟩
            rw [← hy] at y0 y1 y2
            have HY := Aside0.mk hy
            clear hy
            by_cases hxy : y = x
            case pos =>
              have hd := (seed_beq y x).trans (decide_eq_true hxy)
              have HXY := Aside0.mk hxy
              clear hxy hcut1 hcut2
              go_wp2_with fail
              go_quiet (fail)
              go_wp2_with fail
              go_roundg (l0.length - (i + 1))
              case measure => omega
              case rel =>
                refine ⟨i + 1, by go_num, by omega, Nat.le_refl _, ⟨?_⟩, ⟨pw_below_drewN (below_step HB.out HBI.out) _⟩⟩
                rw [HSN.out, insS_there x out a hal (fun j hj => HA.out j hj (by omega)) (by rw [← HY.out]; exact HXY.out)]
                exact Kd.R_drewN (Kd.R_below HO.out HBI.out) _
            case' neg =>
              have hd := (seed_beq y x).trans (decide_eq_false hxy)
              have HNEW : Aside0 (insS x out = out.take a ++ x :: out.drop a) := ⟨insS_new x out a ha HA.out (fun hl => ⟨HNB.out hl, by rw [← HY.out]; exact hxy⟩)⟩
              clear hxy HY
              go_wp2_with fail
              go_quiet (fail)
          case' neg =>
            have hal2 : ¬ (a : Int) < (out.length : Int) := by omega
            have hald : decide ((a : Int) < (out.length : Int)) = false := decide_eq_false hal2
            have HNEW : Aside0 (insS x out = out.take a ++ x :: out.drop a) := ⟨insS_new x out a ha HA.out (fun hl => absurd hl hal)⟩
            go_wp2_with fail
            go_quiet (fail)
          all_goals
            have HB8 : Aside0 (Below wo.heap.size wo (wc.drewN nq)) := ⟨pw_below_drewN HBI.out _⟩
            have q0 : (wc.drewN nq).cell? (ad0.add (i * 3)) = some (.int .i64 x.f0) := by rw [World.cell?_drewN]; exact z0
            have q1 : (wc.drewN nq).cell? ⟨(ad0.add (i * 3)).block, (ad0.add (i * 3)).off + 1, none⟩ = some (.int .i64 x.f1) := by rw [World.cell?_drewN]; exact z1
            have q2 : (wc.drewN nq).cell? ⟨(ad0.add (i * 3)).block, (ad0.add (i * 3)).off + 2, none⟩ = some (.int .i64 x.f2) := by rw [World.cell?_drewN]; exact z2
            generalize wc.drewN nq = w8 at *
            clear z0 z1 z2
            go_wp2_with fail
            have HLL : Aside0 (out.length + 1 < 5864062014805 ∧ a ≤ out.length) := ⟨⟨hol, ha⟩⟩
            go_region_held3 (fun w' => w'.cell? (ad0.add (i * 3)) = some (.int .i64 x.f0) ∧ w'.cell? ⟨(ad0.add (i * 3)).block, (ad0.add (i * 3)).off + 1, none⟩ = some (.int .i64 x.f1) ∧ w'.cell? ⟨(ad0.add (i * 3)).block, (ad0.add (i * 3)).off + 2, none⟩ = some (.int .i64 x.f2))
              (first | exact ⟨pw_cell_below HB58.out XC.out.1, pw_cell_below HB58.out XC.out.2.1, pw_cell_below HB58.out XC.out.2.2⟩ | exact ⟨pw_cell_below HB54.out XC.out.1, pw_cell_below HB54.out XC.out.2.1, pw_cell_below HB54.out XC.out.2.2⟩ | exact ⟨pw_cell_below HB48.out XC.out.1, pw_cell_below HB48.out XC.out.2.1, pw_cell_below HB48.out XC.out.2.2⟩ | go_keep)
              (first | (refine Kd.R_append_rows_step k25 (w0 := wo) wo.heap.size (by rfl) (.tmp 44) (.tmp 47) 22 25 (.agg #[.int .i64 0, .int .i64 0, .int .i64 0]) 24 (by rfl) Try.underlying22 info25 rfl (by decide) (by omega) _ [] (out.take a) _ _ _ (fun _ => True) (fun _ => False) rfl rfl ?aO (HR47.out _ ?aQ) (fun p cs h => by rw [k25_open h]; exact k25_mkM _ _ _ p) (fun _ hk => hk.elim) (fun _ _ => trivial) ?aB ?aS ?aL ?_; (case aO => (refine R_box0 ?aH ?aG; (case aH => (first | (refine heap_at _ _ _ ?_; simp; done) | (refine blk_alloc (heap_at _ _ _ ?_) _; simp; done))); (case aG => (have h_ := below_size HB8.out; first | exact h_ | exact Nat.le_succ_of_le h_)))); (case aQ => (skip; (repeat (first | exact HB8.out | exact HB48.out | exact HB54.out | apply below_alloc | apply pw_below_drewN | apply below_drew1)))); (case aB => (repeat (first | exact HB8.out | exact HB48.out | exact HB54.out | apply below_alloc | apply pw_below_drewN | apply below_drew1))); (case aS => (refine below_size ?_; (repeat (first | exact HB8.out | exact HB48.out | exact HB54.out | apply below_alloc | apply pw_below_drewN | apply below_drew1)))); (case aL => (have h_ := HLL.out; simp only [List.length_nil]; omega)); intro v48 w48 ho48 hb48 hg48 hat48; have HX48 := Aside0.mk (box_kept (by (first | (refine heap_at _ _ _ ?_; simp; done) | (refine blk_alloc (heap_at _ _ _ ?_) _; simp; done))) hg48); have HO48 := Aside0.mk ho48; have HB48 := Aside0.mk hb48; clear ho48 hb48 hg48 hat48) | (refine Kd.R_append_rows_step k25 (w0 := wo) wo.heap.size (by rfl) (.tmp 48) (.tmp 53) 22 25 (.agg #[.int .i64 0, .int .i64 0, .int .i64 0]) 24 (by rfl) Try.underlying22 info25 rfl (by decide) (by omega) _ ([] ++ out.take a) [x] _ _ _ (fun _ => True) (fun _ => False) rfl rfl ?bO (C_box1 x ?bQ) (fun p cs h => by rw [k25_open h]; exact k25_mkM _ _ _ p) (fun _ hk => hk.elim) (fun _ _ => trivial) ?bB ?bS ?bL ?_; (case bO => ((with_reducible repeat (first | apply Kd.R_alloc | apply Kd.R_drewN | apply Kd.R_drew)); exact HO48.out)); (case bQ => (skip; first | (refine heap_at _ _ _ ?_; simp; done) | (refine HX48.out _ _ _ _ ?_; (first | (refine heap_at _ _ _ ?_; simp; done) | (refine blk_alloc (heap_at _ _ _ ?_) _; simp; done))))); (case bB => (repeat (first | exact HB8.out | exact HB48.out | exact HB54.out | apply below_alloc | apply pw_below_drewN | apply below_drew1))); (case bS => (refine below_size ?_; (repeat (first | exact HB8.out | exact HB48.out | exact HB54.out | apply below_alloc | apply pw_below_drewN | apply below_drew1)))); (case bL => (have h_ := HLL.out; simp only [List.nil_append, List.length_take]; omega)); intro v54 w54 ho54 hb54 hg54 hat54; have HO54 := Aside0.mk ho54; have HB54 := Aside0.mk hb54; clear ho54 hb54 hg54 hat54) | (refine Kd.R_append_rows_step k25 (w0 := wo) wo.heap.size (by rfl) (.tmp 54) (.tmp 57) 22 25 (.agg #[.int .i64 0, .int .i64 0, .int .i64 0]) 24 (by rfl) Try.underlying22 info25 rfl (by decide) (by omega) _ ([] ++ out.take a ++ [x]) (out.drop a) _ _ _ (fun _ => True) (fun _ => False) rfl rfl ?cO (HR57.out _ HB54.out) (fun p cs h => by rw [k25_open h]; exact k25_mkM _ _ _ p) (fun _ hk => hk.elim) (fun _ _ => trivial) ?cB ?cS ?cL ?_; (case cO => (exact HO54.out)); (case cB => (repeat (first | exact HB8.out | exact HB48.out | exact HB54.out | apply below_alloc | apply pw_below_drewN | apply below_drew1))); (case cS => (refine below_size ?_; (repeat (first | exact HB8.out | exact HB48.out | exact HB54.out | apply below_alloc | apply pw_below_drewN | apply below_drew1)))); (case cL => (have h_ := HLL.out; simp only [List.nil_append, List.length_take, List.length_append, List.length_singleton]; omega)); intro v58 w58 ho58 hb58 hg58 hat58; have HO58 := Aside0.mk ho58; have HB58 := Aside0.mk hb58; clear ho58 hb58 hg58 hat58))
            all_goals
              go_wp2_with fail
              go_roundg (l0.length - (i + 1))
              case measure => omega
              case rel =>
                refine ⟨i + 1, by go_num, by omega, Nat.le_refl _, ⟨?_⟩, ⟨below_step HB.out HB58.out⟩⟩
                have h_ := HO58.out
                rw [List.nil_append, List.append_assoc, List.singleton_append] at h_
                rw [HSN.out, HNEW.out]
                exact Kd.R_lower h_ (below_size HB.out)
      · have : i = l0.length := by omega
        subst this
        go_wp2_with fail
        go_ret
        rw [List.take_length] at HO
        exact ⟨_, rfl, HO.out, HB.out⟩
  · rw [if_neg hl] at h
    exact absurd h (by simp)
end Go.Proofs.Ytgcfcemgeppkmaa.P
