/-
  Proved: the statement MeshWays of herdsmanlaw14 (who leads into a node can be led back from it, by the same ways turned about; no edge costs less than a step, none is from itself, none twice) holds of the given program; no conditions beyond the row's own.
-/
import Derived.Test.YthgehdembghdaaaGreatRows
import Derived.WalkKit
import Derived.ProofKit
import Derived.OpenShut
import Derived.ShutString
import Derived.ChangeOld
import Derived.Below
import Derived.SizedLaws
import Derived.Lib.SmallJoins
import Derived.Test.YthgehdembghdaaaGreatWSized
import Derived.Test.YthgehdembghdaaaGreatPx0
import Derived.Test.YthgehdembghdaaaGreatXBase
import Derived.Deep.Slices
import Derived.Deep.Strs
import Derived.Deep.Fields
import Derived.Test.YthgehdembghdaaaGreatXMesh3
import Derived.Test.YthgehdembghdaaaGreatPx6
import Derived.Lib.Builder
import Derived.Test.YthgehdembghdaaaGreatXBuilt
import Derived.Test.YthgehdembghdaaaGreatXMDirty
import Derived.Test.YthgehdembghdaaaGreatXTold14
namespace Go.Proofs.YthgehdembghdaaaGreat.P
open Go.RowKit Go.Proofs.YthgehdembghdaaaGreatW.PrintWords Go.Proofs.YthgehdembghdaaaGreatW.PrintLast Go.Proofs.YthgehdembghdaaaGreatW.PrintMore
open Go.Proofs.YthgehdembghdaaaGreat.Geo Go.Proofs.YthgehdembghdaaaGreat.Dist
set_option linter.unusedVariables false
set_option linter.unusedSimpArgs false
theorem less_some (a b : Int) : cmp_Less_int.f a b = some (decide (a < b)) := by simp [cmp_Less_int.f, cmp_isNaN_int.f]
theorem nan_some (a : Int) : slices_isNaN_int.f a = some false := by simp [slices_isNaN_int.f]
theorem rising {l : List Int} (hs : l.Pairwise (· < ·)) {a b : Nat} (hab : a < b) (hb : b < l.length) : rd l (a : Int) < rd l (b : Int) := by
  rw [rd_get l (by omega), rd_get l hb]
  exact List.pairwise_iff_getElem.1 hs a b (by omega) hb hab
theorem mem_rd {l : List Int} {x : Int} : x ∈ l ↔ ∃ p : Nat, p < l.length ∧ rd l (p : Int) = x := by
  rw [List.mem_iff_getElem]
  constructor
  · rintro ⟨p, hp, e⟩
    exact ⟨p, hp, by rw [rd_get l hp]; exact e⟩
  · rintro ⟨p, hp, e⟩
    exact ⟨p, hp, by rw [rd_get l hp] at e; exact e⟩
theorem search_l {l : List Int} (hs : l.Pairwise (· < ·)) (hl : l.length ≤ 1000000) (x : Int) : ∀ (d lo hi k : Nat), hi - lo ≤ d → lo ≤ hi → hi ≤ l.length → (∀ t : Nat, t < lo → rd l (t : Int) < x) → (∀ t : Nat, hi ≤ t → t < l.length → x ≤ rd l (t : Int)) → d < k → ∃ p : Nat, slices_BinarySearch_int_int.l0 k l x (l.length : Int) (lo : Int) (hi : Int) = some ((p : Int), decide (x ∈ l)) ∧ (x ∈ l → p < l.length ∧ rd l (p : Int) = x) := by
  intro d
  induction d with
  | zero =>
    intro lo hi k hd hle hhi h1 h2 hk
    obtain ⟨k, rfl⟩ : ∃ q, k = q + 1 := ⟨k - 1, by omega⟩
    obtain rfl : lo = hi := by omega
    have key : x ∈ l → lo < l.length ∧ rd l (lo : Int) = x := by
      intro hm
      obtain ⟨t, ht, e⟩ := mem_rd.1 hm
      rcases Nat.lt_trichotomy t lo with q | q | q
      · have := h1 t q; omega
      · subst q; exact ⟨ht, e⟩
      · have := rising hs q ht
        have := h2 lo (Nat.le_refl _) (by omega)
        omega
    refine ⟨lo, ?_, key⟩
    rw [slices_BinarySearch_int_int.l0, if_neg (by omega)]
    by_cases q : lo < l.length
    · rw [if_pos (by omega), if_pos (by omega), if_pos (by omega)]
      by_cases e : rd l (lo : Int) = x
      · rw [if_pos e, decide_eq_true (mem_rd.2 ⟨lo, q, e⟩)]
      · rw [if_neg e, nan_some, Option.bind_some, if_neg (by decide), decide_eq_false (fun hm => e (key hm).2)]
    · rw [if_neg (by omega), decide_eq_false (fun hm => q (key hm).1)]
  | succ d ih =>
    intro lo hi k hd hle hhi h1 h2 hk
    obtain ⟨k, rfl⟩ : ∃ q, k = q + 1 := ⟨k - 1, by omega⟩
    by_cases q : lo < hi
    · have hm : wrap64 ((IntKind.u64.wrap (wrap64 ((lo : Int) + (hi : Int)))) / 2) = (((lo + hi) / 2 : Nat) : Int) := by
        rw [w64 (n := (lo : Int) + (hi : Int)) (by omega) (by omega), IntKind.wrap_u64, w64 (by omega) (by omega)]
        omega
      obtain ⟨md, hmd⟩ : ∃ md, md = (lo + hi) / 2 := ⟨_, rfl⟩
      rw [slices_BinarySearch_int_int.l0, if_pos (by omega), hm, ← hmd, if_pos (by omega), if_pos (by omega), less_some, Option.bind_some]
      by_cases e : rd l (md : Int) < x
      · rw [if_pos (by simpa using e), w64 (n := (md : Int) + 1) (by omega) (by omega), show (md : Int) + 1 = ((md + 1 : Nat) : Int) by omega]
        refine ih (md + 1) hi k (by omega) (by omega) hhi (fun t ht => ?_) h2 (by omega)
        rcases Nat.lt_or_ge t md with c | c
        · have := rising hs c (by omega); omega
        · obtain rfl : t = md := by omega
          exact e
      · rw [if_neg (by simpa using e)]
        refine ih lo md k (by omega) (by omega) (by omega) h1 (fun t ht htl => ?_) (by omega)
        rcases Nat.lt_or_ge md t with c | c
        · have := rising hs c htl; omega
        · obtain rfl : t = md := by omega
          omega
    · exact ih lo hi (k + 1) (by omega) hle hhi h1 h2 (by omega)
theorem search_some {l : List Int} (hs : l.Pairwise (· < ·)) (hl : l.length ≤ 1000000) (x : Int) : ∃ p : Nat, slices_BinarySearch_int_int.f (l.length + 1) l x = some ((p : Int), decide (x ∈ l)) ∧ (x ∈ l → p < l.length ∧ rd l (p : Int) = x) :=
  search_l hs hl x l.length 0 l.length (l.length + 1) (by omega) (by omega) (Nat.le_refl _) (fun t ht => absurd ht (Nat.not_lt_zero _)) (fun t h1 h2 => by omega) (by omega)
/-- The node's place in its list. -/
def idx (l : List Int) (c : Int) : Nat := l.idxOf c
theorem idx_lt' {l : List Int} {c : Int} (h : c ∈ l) : idx l c < l.length := List.idxOf_lt_length_of_mem h
theorem idx_rd {l : List Int} {c : Int} (h : c ∈ l) : rd l (idx l c : Int) = c := by
  rw [rd_get l (idx_lt' h)]
  exact List.getElem_idxOf _
theorem idx_eq {l : List Int} (hs : l.Pairwise (· < ·)) {p : Nat} (hp : p < l.length) {c : Int} (e : rd l (p : Int) = c) : p = idx l c := by
  have hm : c ∈ l := mem_rd.2 ⟨p, hp, e⟩
  have h1 := idx_lt' hm
  have h2 := idx_rd hm
  rcases Nat.lt_trichotomy p (idx l c) with q | q | q
  · have := rising hs q h1; omega
  · exact q
  · have := rising hs q hp; omega
/-- The part that a cell's sector is. -/
def partC (s : GridS) (x : MeshS) (c : Int) : Part := x.ps.getD (sec s.W c).toNat default
def inC (s : GridS) (c : Int) : Prop := 0 ≤ c ∧ c < s.W * s.H
instance (s : GridS) (c : Int) : Decidable (inC s c) := inferInstanceAs (Decidable (_ ∧ _))
def isNode (s : GridS) (x : MeshS) (c : Int) : Prop := inC s c ∧ c ∈ (partC s x c).nodes
instance (s : GridS) (x : MeshS) (c : Int) : Decidable (isNode s x c) := inferInstanceAs (Decidable (_ ∧ _))
def d64 (e : Int) : Int := if e = -1 then INF else e
/-- Which number of a part tells how far it is from one node to another one. -/
def pairD (y : Part) (i j : Nat) : Int := d64 (rd y.dist ((i * y.nodes.length + j : Nat) : Int))
/-- A part's nodes rise; what its numbers may be. -/
structure PartG (y : Part) : Prop where
  rise : y.nodes.Pairwise (· < ·)
  dist : ∀ k : Nat, k < y.dist.length → -1 ≤ rd y.dist (k : Int) ∧ rd y.dist (k : Int) ≤ 65024
def Good (x : MeshS) : Prop := ∀ i, PartG (x.ps.getD i default)
theorem PartG.zero : PartG default := ⟨List.Pairwise.nil, fun k hk => absurd hk (Nat.not_lt_zero _)⟩
/-- Where a cell's part lies. -/
def ptrC (s : GridS) (m : Mb) (c : Int) : Option Addr := if inC s c then some ⟨m.pb, (sec s.W c).toNat * 3, none⟩ else none
theorem ptr_eq {s : GridS} {m : Mb} {a b : Int} (h : Dim s.W s.H) (ha : inC s a) (hb : inC s b) : ptrC s m a = ptrC s m b ↔ sec s.W a = sec s.W b := by
  have ra := sec_rng h ha.1 ha.2
  have rb := sec_rng h hb.1 hb.2
  unfold ptrC
  rw [if_pos ha, if_pos hb]
  constructor
  · intro e
    injection e with e
    injection e with _ e _
    omega
  · intro e
    rw [e]
end Go.Proofs.YthgehdembghdaaaGreat.P
namespace Go.Proofs.YthgehdembghdaaaGreat.P
open Go.RowKit Go.Proofs.YthgehdembghdaaaGreatW.PrintWords Go.Proofs.YthgehdembghdaaaGreatW.PrintLast Go.Proofs.YthgehdembghdaaaGreatW.PrintMore
open Go.Proofs.YthgehdembghdaaaGreat.Geo Go.Proofs.YthgehdembghdaaaGreat.Dist
set_option linter.unusedVariables false
set_option linter.unusedSimpArgs false
variable {w w' : World} {g : Gb} {s : GridS} {m : Mb} {x : MeshS}
theorem drawn_tr {w w1 w2 : World} (h : Drawn0 w w1) (h' : Drawn0 w1 w2) : Drawn0 w w2 := by
  obtain ⟨a, rfl⟩ := h
  obtain ⟨b, rfl⟩ := h'
  exact ⟨a + b, World.drewN_drewN _ _ _⟩
set_option maxHeartbeats 2000000 in
theorem place_calls {pb o : Nat} {An : Option Addr} {nn : Nat} {N : List Int} (c1 : w.cell? ⟨pb, o + 1, none⟩ = some (.slice An N.length nn)) (hN : Kd.C (Kd.int .i64) w An N.length N) (hnn : N.length ≤ nn) (hs : N.Pairwise (· < ·)) (hl : N.length ≤ 256) (c : Int) :
    Calls Tryz.prog 111 #[.pointer (some ⟨pb, o, none⟩), .int .i64 c] w fun e w' => ∃ p : Nat, e = .returned (.tuple #[.int .i64 p, .bool (decide (c ∈ N))]) ∧ (c ∈ N → p = idx N c) ∧ Drawn0 w w' := by
  obtain ⟨p, hp, hq⟩ := search_some hs (by omega) c
  have HS := Aside0.mk hs
  have HQ := Aside0.mk hq
  have HP := Aside0.mk hp
  have HN := Aside0.mk hN
  have HL := Aside0.mk hnn
  clear hs hq hp hN hl hnn
  go_enter Tryz.func111, Tryz.ntmps111
  go_wp2_with (go_at_call 139; refine (slices_BinarySearch_int_int.calls (N.length + 1) An nn N c (p : Int) (decide (c ∈ N)) _ HN.out HL.out HP.out).mono ?_; rintro e w1 ⟨rfl, hd⟩)
  go_ret2
  exact ⟨p, rfl, fun hm => idx_eq HS.out (HQ.out hm).1 (HQ.out hm).2, hd⟩
set_option maxHeartbeats 2000000 in
theorem between_calls {pb o : Nat} {An Ad : Option Addr} {nn nd : Nat} {N D : List Int} (c1 : w.cell? ⟨pb, o + 1, none⟩ = some (.slice An N.length nn)) (c2 : w.cell? ⟨pb, o + 2, none⟩ = some (.slice Ad D.length nd)) (hD : Kd.C (Kd.int .i32) w Ad D.length D) (hl : D.length = N.length * N.length) (hn : N.length ≤ 256)
    (hr : ∀ k : Nat, k < D.length → -1 ≤ rd D (k : Int) ∧ rd D (k : Int) ≤ 65024) {i j : Nat} (hi : i < N.length) (hj : j < N.length) :
    Calls Tryz.prog 79 #[.pointer (some ⟨pb, o, none⟩), .int .i64 i, .int .i64 j] w fun e w' => e = .returned (.int .i64 (d64 (rd D ((i * N.length + j : Nat) : Int)))) ∧ Drawn0 w w' := by
  have hij := idx_lt hi hj
  rw [← hl] at hij
  have hk := hr _ hij
  obtain ⟨k, hkk⟩ : ∃ k, k = i * N.length + j := ⟨_, rfl⟩
  have hw := idx_wrap (n := N.length) hn hi hj
  rw [← hkk] at hij hk hw ⊢
  have d0 : (0 : Int) ≤ (k : Int) := by omega
  have d1 : (k : Int) < (D.length : Int) := by omega
  obtain ⟨ad, hAd, hx⟩ := Kd.at_int hD (k : Int) d0 d1
  subst hAd
  rw [Int.toNat_natCast] at hx
  obtain ⟨v, hv⟩ : ∃ v, v = rd D (k : Int) := ⟨_, rfl⟩
  rw [← hv] at hx hk ⊢
  have HK := Aside0.mk hk
  clear hD hl hn hr hi hj hv hij hk hkk
  go_enter Tryz.func79, Tryz.ntmps79
  go_wp2_with fail
  go_quiet (fail)
  by_cases q : v = -1
  · subst q
    go_wp2_with fail
    go_ret
    exact ⟨rfl, ⟨_, rfl⟩⟩
  · have dd : (v != -1) = true := by simp [q]
    have wv : IntKind.i64.wrap v = v := by rw [IntKind.wrap_i64]; have := HK.out; omega
    have HQ := Aside0.mk q
    clear q
    go_wp2_with fail
    go_ret
    exact ⟨by unfold d64; rw [if_neg HQ.out]; rfl, ⟨_, rfl⟩⟩
set_option maxRecDepth 100000 in
set_option maxHeartbeats 4000000 in
theorem mFind_calls (h : Net w g m s x) (hg : Good x) (c : Int) : Calls Tryz.prog 78 #[.pointer (some ⟨m.xb, 0, none⟩), .int .i64 c] w fun e w' => ∃ p : Nat, e = .returned (.tuple #[.pointer (ptrC s m c), .int .i64 p, .bool (decide (isNode s x c))]) ∧ (isNode s x c → p = idx (partC s x c).nodes c) ∧ Drawn0 w w' := by
  obtain ⟨c0, c1, _, _⟩ := h.cells
  have HM := Aside0.mk h
  have hsc := wSector h.grid.ok.dim c
  by_cases hc : inC s c
  · have r := sec_rng h.grid.ok.dim hc.1 hc.2
    obtain ⟨i, hi⟩ : ∃ i : Nat, sec s.W c = (i : Int) := ⟨(sec s.W c).toNat, by omega⟩
    have hil : i < x.ps.length := by have := h.len; omega
    have ep : partC s x c = x.ps.getD i default := by unfold partC; rw [hi, Int.toNat_natCast]
    have e1 : ptrC s m c = some ⟨m.pb, i * 3, none⟩ := by unfold ptrC; rw [if_pos hc, hi, Int.toNat_natCast]
    have e2 : isNode s x c ↔ c ∈ (x.ps.getD i default).nodes := by unfold isNode; rw [ep]; exact ⟨fun q => q.2, fun q => ⟨hc, q⟩⟩
    rw [if_pos (show 0 ≤ c ∧ c < s.W * s.H from hc), hi] at hsc
    have hde : decide (isNode s x c) = decide (c ∈ (x.ps.getD i default).nodes) := decide_eq_decide.2 e2
    rw [e1, ep, hde]
    have HSC := Aside0.mk hsc
    have HE := Aside0.mk e2
    have HG := Aside0.mk (hg i).rise
    have HIL := Aside0.mk hil
    have d1 : (i : Int) < (x.ps.length : Int) := by omega
    have d2 : (0 : Int) ≤ (i : Int) := by omega
    have d3 : decide ((i : Int) < 0) = false := by simp
    clear h hg hsc hc r hi hil ep e1 e2 hde
    go_enter Tryz.func78, Tryz.ntmps78
    go_wp2_with (first
      | (go_at_call 87; refine (gSize_calls HM.out.grid).mono ?_; rintro e w1 ⟨rfl, hd⟩; have HD1 := Aside0.mk hd; have c1 := pw_cell_below hd.below c1; have c0 := pw_cell_below hd.below c0; clear hd)
      | (go_at_call 21; refine (where_Sector.calls _ _ _ _ _ HSC.out).mono ?_; rintro e w2 ⟨rfl, hd⟩; have HD2 := Aside0.mk (drawn_tr HD1.out hd); have c1 := pw_cell_below hd.below c1; have c0 := pw_cell_below hd.below c0; clear hd)
      | (go_at_call 111; (have hm2 := HM.out.below HD2.out.below); (obtain ⟨nv, dv, p0, p1, p2, hp⟩ := hm2.part HIL.out); (obtain ⟨An, nn, en⟩ := Kd.R_slice hp.nodes); (have en' : nv = .slice An (x.ps.getD i default).nodes.length nn := en); subst en'; refine (place_calls p1 (Kd.R_reads' hp.nodes).2.2 (Kd.R_reads' hp.nodes).2.1 HG.out hp.len.1 c).mono ?_; rintro e w3 ⟨p, rfl, hpp, hd⟩; have HD3 := Aside0.mk (drawn_tr HD2.out hd); have HPP := Aside0.mk hpp; clear hm2 hp p0 p1 p2 hd hpp en))
    go_ret3
    exact ⟨p, rfl, fun q => HPP.out (HE.out.1 q), HD3.out⟩
  · have e1 : ptrC s m c = none := by unfold ptrC; rw [if_neg hc]
    have e2 : ¬ isNode s x c := fun q => hc q.1
    rw [if_neg (show ¬ (0 ≤ c ∧ c < s.W * s.H) from hc)] at hsc
    rw [e1, decide_eq_false e2]
    have HSC := Aside0.mk hsc
    have HE := Aside0.mk e2
    clear h hg hsc hc e1 e2
    go_enter Tryz.func78, Tryz.ntmps78
    go_wp2_with (first
      | (go_at_call 87; refine (gSize_calls HM.out.grid).mono ?_; rintro e w1 ⟨rfl, hd⟩; have HD1 := Aside0.mk hd; clear hd)
      | (go_at_call 21; refine (where_Sector.calls _ _ _ _ _ HSC.out).mono ?_; rintro e w2 ⟨rfl, hd⟩; have HD2 := Aside0.mk (drawn_tr HD1.out hd); clear hd))
    go_ret3
    exact ⟨0, rfl, fun q => absurd q HE.out, HD2.out⟩
/-- What lies in memory of a cell's part. -/
theorem Net.partAt (h : Net w g m s x) {c : Int} (hc : inC s c) : ∃ (An Ad : Option Addr) (nn nd : Nat), w.cell? ⟨m.pb, (sec s.W c).toNat * 3 + 1, none⟩ = some (.slice An (partC s x c).nodes.length nn) ∧ w.cell? ⟨m.pb, (sec s.W c).toNat * 3 + 2, none⟩ = some (.slice Ad (partC s x c).dist.length nd) ∧ Kd.C (Kd.int .i64) w An (partC s x c).nodes.length (partC s x c).nodes ∧ Kd.C (Kd.int .i32) w Ad (partC s x c).dist.length (partC s x c).dist ∧ (partC s x c).nodes.length ≤ 256 ∧ (partC s x c).dist.length = (partC s x c).nodes.length * (partC s x c).nodes.length := by
  have r := sec_rng h.grid.ok.dim hc.1 hc.2
  have hil : (sec s.W c).toNat < x.ps.length := by have := h.len; omega
  obtain ⟨nv, dv, p0, p1, p2, hp⟩ := h.part hil
  obtain ⟨An, nn, en⟩ := Kd.R_slice hp.nodes
  obtain ⟨Ad, nd, ed⟩ := Kd.R_slice hp.dist
  have en' : nv = .slice An (partC s x c).nodes.length nn := en
  have ed' : dv = .slice Ad (partC s x c).dist.length nd := ed
  subst en' ed'
  exact ⟨An, Ad, nn, nd, p1, p2, (Kd.R_reads' hp.nodes).2.2, (Kd.R_reads' hp.dist).2.2, hp.len.1, hp.len.2⟩
/-- Between two nodes of a part. -/
theorem between_at (h : Net w g m s x) (hg : Good x) {c : Int} (hc : inC s c) {i j : Nat} (hi : i < (partC s x c).nodes.length) (hj : j < (partC s x c).nodes.length) :
    Calls Tryz.prog 79 #[.pointer (ptrC s m c), .int .i64 i, .int .i64 j] w fun e w' => e = .returned (.int .i64 (pairD (partC s x c) i j)) ∧ Drawn0 w w' := by
  obtain ⟨An, Ad, nn, nd, p1, p2, hN, hD, hl, hdl⟩ := h.partAt hc
  have e1 : ptrC s m c = some ⟨m.pb, (sec s.W c).toNat * 3, none⟩ := by unfold ptrC; rw [if_pos hc]
  rw [e1]
  exact between_calls p1 p2 hD hdl hl (hg _).dist hi hj
theorem neq_other {P : Program} (w : World) {tp te : TypeId} {j : TypeInfo} {a b : Addr} {ca cb : Array Value} {ta tb : TypeId} (hp : P.underlying tp = some (.pointer te)) (hte : P.info? te = some j) (hsz : j.size ≠ 0)
    (hne : a ≠ b) (ha : w.heap[a.block]? = some (.cells ca ta (0, 0))) (hb : w.heap[b.block]? = some (.cells cb tb (0, 0))) :
    (binOp .neq tp (.pointer (some a)) (.pointer (some b))).run P w = .ok (.bool true) w := by
  have h : ∀ d : Nat, (Op.equalIn (d + 1) tp (.pointer (some a)) (.pointer (some b))).run P w = .ok false w := fun d => by
    simp [Op.equalIn, run_underlying hp, sizeOf, typeInfo, hte, hsz, run_sameAddr_other w hne ha hb]
  simp only [binOp]
  simp [Op.equal, Op.maxDepth, h 9999]
/-- Two cells' parts, as pointers. -/
theorem neq_same (h : Net w g m s x) {a b : Int} (ha : inC s a) (hs : sec s.W a = sec s.W b) (hb : inC s b) : Sem.run Tryz.prog (binOp .neq 118 (.pointer (ptrC s m a)) (.pointer (ptrC s m b))) w = .ok (.bool false) w := by
  obtain ⟨i0, hi, hzz⟩ := Option.map_eq_some_iff.1 infoPart
  rw [(ptr_eq h.grid.ok.dim ha hb).2 hs]
  unfold ptrC
  rw [if_pos hb]
  exact Lib.run_neq_ptr_same w _ Tryz.underlying118 hi
theorem neq_diff (h : Net w g m s x) {a b : Int} (ha : inC s a) (hs : sec s.W a ≠ sec s.W b) (hb : inC s b) : Sem.run Tryz.prog (binOp .neq 118 (.pointer (ptrC s m a)) (.pointer (ptrC s m b))) w = .ok (.bool true) w := by
  obtain ⟨i0, hi, hzz⟩ := Option.map_eq_some_iff.1 infoPart
  simp only [Prod.mk.injEq] at hzz
  obtain ⟨pvs, hm⟩ := h.mesh
  obtain ⟨cs, hcs⟩ := hm.typ
  have ra := sec_rng h.grid.ok.dim ha.1 ha.2
  have rb := sec_rng h.grid.ok.dim hb.1 hb.2
  unfold ptrC
  rw [if_pos ha, if_pos hb]
  refine neq_other w Tryz.underlying118 hi (by rw [hzz.2.1]; decide) ?_ hcs hcs
  intro e
  injection e with _ e _
  exact hs (by omega)
end Go.Proofs.YthgehdembghdaaaGreat.P
namespace Go.Proofs.YthgehdembghdaaaGreat.P
open Go.RowKit Go.Proofs.YthgehdembghdaaaGreatW.PrintWords Go.Proofs.YthgehdembghdaaaGreatW.PrintLast Go.Proofs.YthgehdembghdaaaGreatW.PrintMore
open Go.Proofs.YthgehdembghdaaaGreat.Geo Go.Proofs.YthgehdembghdaaaGreat.Dist
set_option linter.unusedVariables false
set_option linter.unusedSimpArgs false
/-- A way to a cell costs at least what the cell costs. -/
theorem dist1_end {W H : Int} {C : List Int} (hb : ∀ x ∈ C, 0 ≤ x ∧ x ≤ 255) (ht : TileOk W H C) {x : Nat} (h1 : x < C.length) (h2 : rd C x ≠ 255) : ∀ (n i : Nat), i < C.length → i ≠ x → rd (dist1 W C x) i ≤ (n : Int) → rd C x ≤ rd (dist1 W C x) i := by
  intro n
  induction n with
  | zero =>
    intro i hi hne hn
    have := dist1_pos hb ht h1 h2 hi hne
    omega
  | succ n ih =>
    intro i hi hne hn
    have hbx := hb (C[x]'h1) (List.getElem_mem _)
    rw [← rd_get C h1] at hbx
    rcases ((one_gr hb ht h1 h2).2 i hi).2 with e | ⟨_, ⟨e, _⟩ | ⟨j, hj, _, hoj, e⟩⟩
    · have e' : rd (dist1 W C x) i = INF := e
      unfold INF at e'
      omega
    · exact absurd e hne
    · have e' : rd (dist1 W C x) i = rd (dist1 W C x) j + rd C j := e
      have h3 : 1 ≤ rd C j := pos_c hb ht j hj hoj
      by_cases q : j = x
      · subst q
        have := dist1_self hb ht h1 h2
        omega
      · have := ih j hj q (by omega)
        omega
theorem dist1_ge {W H : Int} {C : List Int} (hb : ∀ x ∈ C, 0 ≤ x ∧ x ≤ 255) (ht : TileOk W H C) {x i : Nat} (h1 : x < C.length) (h2 : rd C x ≠ 255) (hi : i < C.length) (hne : i ≠ x) : rd C x ≤ rd (dist1 W C x) i :=
  dist1_end hb ht h1 h2 (rd (dist1 W C x) i).toNat i hi hne (by omega)
abbrev EdgeS := S53
/-- A cell beside a cell; -1: none. -/
def stepA (s : GridS) (b d : Int) : Int := if OutE s.W s.H b d then -1 else nbS s.W b d
def inA (s : GridS) (x : MeshS) (b : Int) (i : Nat) : List EdgeS :=
  if i ≠ idx (partC s x b).nodes b ∧ pairD (partC s x b) i (idx (partC s x b).nodes b) ≠ INF then [⟨rd (partC s x b).nodes (i : Int), pairD (partC s x b) i (idx (partC s x b).nodes b)⟩] else []
def sideOk (s : GridS) (x : MeshS) (b d : Int) : Prop := isNode s x (stepA s b d) ∧ sec s.W (stepA s b d) ≠ sec s.W b
instance (s : GridS) (x : MeshS) (b d : Int) : Decidable (sideOk s x b d) := inferInstanceAs (Decidable (_ ∧ _))
def sideA (s : GridS) (x : MeshS) (b : Int) (d : Nat) : List EdgeS := if sideOk s x b (d : Int) then [⟨stepA s b (d : Int), rd s.C b⟩] else []
def inL (s : GridS) (x : MeshS) (b : Int) (n : Nat) : List EdgeS := (List.range n).flatMap (inA s x b)
def sideL (s : GridS) (x : MeshS) (b : Int) (n : Nat) : List EdgeS := (List.range n).flatMap (sideA s x b)
/-- The edges that come to a node. -/
def intoM (s : GridS) (x : MeshS) (b : Int) : List EdgeS := if isNode s x b then inL s x b (partC s x b).nodes.length ++ sideL s x b 4 else []
theorem in_next (s : GridS) (x : MeshS) (b : Int) (n : Nat) : inL s x b (n + 1) = inL s x b n ++ inA s x b n := by
  unfold inL
  rw [List.range_succ, List.flatMap_append]
  simp
theorem side_next (s : GridS) (x : MeshS) (b : Int) (n : Nat) : sideL s x b (n + 1) = sideL s x b n ++ sideA s x b n := by
  unfold sideL
  rw [List.range_succ, List.flatMap_append]
  simp
theorem in_len (s : GridS) (x : MeshS) (b : Int) (n : Nat) : (inL s x b n).length ≤ n := by
  induction n with
  | zero => simp [inL]
  | succ n ih =>
    rw [in_next, List.length_append]
    have : (inA s x b n).length ≤ 1 := by unfold inA; split <;> simp
    omega
theorem side_len (s : GridS) (x : MeshS) (b : Int) (n : Nat) : (sideL s x b n).length ≤ n := by
  induction n with
  | zero => simp [sideL]
  | succ n ih =>
    rw [side_next, List.length_append]
    have : (sideA s x b n).length ≤ 1 := by unfold sideA; split <;> simp
    omega
/-- Every sector is as the map is. -/
structure Fresh (s : GridS) (x : MeshS) : Prop where
  ok : MapOk s.W s.H s.C
  len : (x.ps.length : Int) = cnt s.W s.H
  part : ∀ i : Nat, i < x.ps.length → PartOk s.W s.H s.C (i : Int) (x.ps.getD i default)
variable {s : GridS} {x : MeshS}
theorem Fresh.at (h : Fresh s x) {c : Int} (hc : inC s c) : PartOk s.W s.H s.C (sec s.W c) (partC s x c) := by
  have r := sec_rng h.ok.dim hc.1 hc.2
  have := h.part (sec s.W c).toNat (by have := h.len; omega)
  rw [Int.toNat_of_nonneg r.1] at this
  exact this
theorem isNode_iff (h : Fresh s x) (c : Int) : isNode s x c ↔ inC s c ∧ edgeS s.W s.H c ∧ rd s.C c ≠ 255 := by
  unfold isNode
  constructor
  · rintro ⟨hc, hm⟩
    rw [(h.at hc).nodes, mem_nodes h.ok.dim (sec_rng h.ok.dim hc.1 hc.2)] at hm
    exact ⟨hc, hm.2.2⟩
  · rintro ⟨hc, hm⟩
    refine ⟨hc, ?_⟩
    rw [(h.at hc).nodes, mem_nodes h.ok.dim (sec_rng h.ok.dim hc.1 hc.2)]
    exact ⟨hc, rfl, hm⟩
/-- What is known of two open cells of a sector. -/
theorem distN_two {W H : Int} {C : List Int} (h : MapOk W H C) {a b : Int} (ha : 0 ≤ a ∧ a < W * H) (hb : 0 ≤ b ∧ b < W * H) (hs : sec W a = sec W b) (oa : rd C a ≠ 255) (ob : rd C b ≠ 255) :
    (0 ≤ distN W H C (sec W b) a b ∧ distN W H C (sec W b) a b ≤ INF) ∧ (a = b → distN W H C (sec W b) a b = 0) ∧ (a ≠ b → rd C b ≤ distN W H C (sec W b) a b) ∧ (distN W H C (sec W b) a b = INF ↔ distN W H C (sec W b) b a = INF) ∧ (distN W H C (sec W b) a b < INF → distN W H C (sec W b) a b + rd C a = distN W H C (sec W b) b a + rd C b ∧ distN W H C (sec W b) a b ≤ 65024) := by
  have sb := sec_rng h.dim hb.1 hb.2
  have ht := tile_ok h sb
  have hbb : ∀ y ∈ tileL W H C (sec W b), 0 ≤ y ∧ y ≤ 255 := fun y hy => by have := tile_bytes h sb y hy; omega
  have ra := loc_rng h.dim ha.1 ha.2
  have rb := loc_rng h.dim hb.1 hb.2
  have ta := tile_loc (C := C) h.dim ha.1 ha.2
  have tb := tile_loc (C := C) h.dim hb.1 hb.2
  have ga := glo_loc h.dim ha.1 ha.2
  have gb := glo_loc h.dim hb.1 hb.2
  rw [hs] at ra ta ga
  obtain ⟨i, hi⟩ : ∃ i : Nat, loc W a = i := ⟨(loc W a).toNat, by omega⟩
  obtain ⟨j, hj⟩ : ∃ j : Nat, loc W b = j := ⟨(loc W b).toNat, by omega⟩
  unfold distN
  have hbx := box_wh h.dim sb
  have htl := tileL_len (W := W) (H := H) (C := C) (s := sec W b)
  rw [hi] at ra ta ga
  rw [hj] at rb tb gb
  rw [hi, hj]
  have i1 : i < (tileL W H C (sec W b)).length := by rw [htl]; omega
  have j1 : j < (tileL W H C (sec W b)).length := by rw [htl]; omega
  have i2 : rd (tileL W H C (sec W b)) (i : Int) ≠ 255 := by rw [ta]; exact oa
  have j2 : rd (tileL W H C (sec W b)) (j : Int) ≠ 255 := by rw [tb]; exact ob
  have bo := dist1_both hbb ht i1 i2 j1 j2
  rw [ta, tb] at bo
  refine ⟨dist1_range hbb ht j1 j2 i1, ?_, ?_, bo.1, ?_⟩
  · intro e
    subst e
    obtain rfl : i = j := by omega
    exact dist1_self hbb ht j1 j2
  · intro e
    rw [← tb]
    refine dist1_ge hbb ht j1 j2 i1 (fun q => e ?_)
    subst q
    exact ga.symm.trans gb
  · intro e
    refine ⟨bo.2 e, ?_⟩
    have := dist1_small hbb ht j1 j2 i1 (by omega)
    have : ((tileL W H C (sec W b)).length : Int) ≤ 256 := by rw [htl]; omega
    omega
theorem d64_f32 {d : Int} (h : 0 ≤ d) : d64 (f32 d) = d := by
  unfold d64 f32
  by_cases q : d = INF
  · rw [if_pos q, if_pos rfl, q]
  · rw [if_neg q, if_neg (by omega)]
theorem part_good {W H : Int} {C : List Int} (h : MapOk W H C) {i : Int} (hs : inS W H i) {y : Part} (p : PartOk W H C i y) : PartG y := by
  refine ⟨by rw [p.nodes]; exact nodes_lt h.dim hs, fun k hk => ?_⟩
  rw [p.dlen] at hk
  have hn : 0 < y.nodes.length := by
    rcases Nat.eq_zero_or_pos y.nodes.length with q | q
    · rw [q] at hk; omega
    · exact q
  have hb' := Nat.mod_lt k hn
  have ha : k / y.nodes.length < y.nodes.length := Nat.div_lt_of_lt_mul hk
  have e : k / y.nodes.length * y.nodes.length + k % y.nodes.length = k := by rw [Nat.mul_comm]; exact Nat.div_add_mod k y.nodes.length
  have h1 := p.dist _ _ ha hb'
  rw [e] at h1
  have ma : rd y.nodes ((k / y.nodes.length : Nat) : Int) ∈ y.nodes := mem_rd.2 ⟨_, ha, rfl⟩
  have mb : rd y.nodes ((k % y.nodes.length : Nat) : Int) ∈ y.nodes := mem_rd.2 ⟨_, hb', rfl⟩
  generalize rd y.nodes ((k / y.nodes.length : Nat) : Int) = a at *
  generalize rd y.nodes ((k % y.nodes.length : Nat) : Int) = b at *
  rw [p.nodes, mem_nodes h.dim hs] at ma mb
  have t := distN_two h ma.1 mb.1 (by rw [ma.2.1, mb.2.1]) ma.2.2.2 mb.2.2.2
  rw [mb.2.1] at t
  rw [h1]
  unfold f32
  split
  · omega
  · have := t.2.2.2.2 (by omega)
    omega
theorem Fresh.good (h : Fresh s x) : Good x := by
  intro i
  by_cases q : i < x.ps.length
  · exact part_good h.ok ⟨by omega, by have := h.len; omega⟩ (h.part i q)
  · rw [List.getD_eq_getElem?_getD, List.getElem?_eq_none (by omega)]
    exact PartG.zero
/-- A pair's number. -/
theorem pair_fresh (h : Fresh s x) {b : Int} (hb : isNode s x b) {i : Nat} (hi : i < (partC s x b).nodes.length) : pairD (partC s x b) i (idx (partC s x b).nodes b) = distN s.W s.H s.C (sec s.W b) (rd (partC s x b).nodes (i : Int)) b := by
  have p := h.at hb.1
  have hj := idx_lt' hb.2
  have e := p.dist i _ hi hj
  rw [idx_rd hb.2] at e
  unfold pairD
  rw [e]
  have hm : rd (partC s x b).nodes (i : Int) ∈ (partC s x b).nodes := mem_rd.2 ⟨i, hi, rfl⟩
  have sb := sec_rng h.ok.dim hb.1.1 hb.1.2
  have hm2 := hm
  rw [p.nodes, mem_nodes h.ok.dim sb, ← p.nodes] at hm2
  have nb := (isNode_iff h b).1 hb
  exact d64_f32 (distN_two h.ok hm2.1 hb.1 hm2.2.1 hm2.2.2.2 nb.2.2).1.1
/-- Who comes to a node. -/
theorem mem_into (h : Fresh s x) {b : Int} (e : EdgeS) : e ∈ intoM s x b ↔ isNode s x b ∧ ((isNode s x e.f0 ∧ sec s.W e.f0 = sec s.W b ∧ e.f0 ≠ b ∧ e.f1 = distN s.W s.H s.C (sec s.W b) e.f0 b ∧ e.f1 ≠ INF) ∨ ∃ d : Nat, d < 4 ∧ OverS s.W s.H b (d : Int) ∧ e.f0 = nbS s.W b (d : Int) ∧ rd s.C e.f0 ≠ 255 ∧ e.f1 = rd s.C b) := by
  unfold intoM
  by_cases hb : isNode s x b
  · rw [if_pos hb, List.mem_append]
    have p := h.at hb.1
    have sb := sec_rng h.ok.dim hb.1.1 hb.1.2
    have nb := (isNode_iff h b).1 hb
    have hr : (partC s x b).nodes.Pairwise (· < ·) := (h.good (sec s.W b).toNat).rise
    have h1 : e ∈ inL s x b (partC s x b).nodes.length ↔ (isNode s x e.f0 ∧ sec s.W e.f0 = sec s.W b ∧ e.f0 ≠ b ∧ e.f1 = distN s.W s.H s.C (sec s.W b) e.f0 b ∧ e.f1 ≠ INF) := by
      unfold inL
      rw [List.mem_flatMap]
      constructor
      · rintro ⟨i, hi, he⟩
        rw [List.mem_range] at hi
        unfold inA at he
        split at he
        · rename_i q
          rw [List.mem_singleton] at he
          subst he
          have hm : rd (partC s x b).nodes (i : Int) ∈ (partC s x b).nodes := mem_rd.2 ⟨i, hi, rfl⟩
          have hm2 := hm
          rw [p.nodes, mem_nodes h.ok.dim sb, ← p.nodes] at hm2
          refine ⟨(isNode_iff h _).2 ⟨hm2.1, hm2.2.2⟩, hm2.2.1, fun c => q.1 (idx_eq hr hi c), pair_fresh h hb hi, q.2⟩
        · exact absurd he (List.not_mem_nil)
      · rintro ⟨n1, n2, n3, n4, n5⟩
        have k := (isNode_iff h _).1 n1
        have hm : e.f0 ∈ (partC s x b).nodes := by
          rw [p.nodes, mem_nodes h.ok.dim sb]
          exact ⟨k.1, n2, k.2⟩
        have hi := idx_lt' hm
        have he := idx_rd hm
        refine ⟨idx (partC s x b).nodes e.f0, List.mem_range.2 hi, ?_⟩
        have hp := pair_fresh h hb hi
        rw [he, ← n4] at hp
        unfold inA
        rw [if_pos ⟨fun c => n3 (by rw [← he, c]; exact idx_rd hb.2), by rw [hp]; exact n5⟩, hp, he]
        exact List.mem_singleton.2 rfl
    have h2 : e ∈ sideL s x b 4 ↔ ∃ d : Nat, d < 4 ∧ OverS s.W s.H b (d : Int) ∧ e.f0 = nbS s.W b (d : Int) ∧ rd s.C e.f0 ≠ 255 ∧ e.f1 = rd s.C b := by
      unfold sideL
      rw [List.mem_flatMap]
      have hstep : ∀ d : Nat, d < 4 → (sideOk s x b (d : Int) ↔ OverS s.W s.H b (d : Int) ∧ rd s.C (nbS s.W b (d : Int)) ≠ 255) := by
        intro d hd
        have hd3 : 0 ≤ (d : Int) ∧ (d : Int) ≤ 3 := by omega
        unfold sideOk stepA
        by_cases q : OutE s.W s.H b (d : Int)
        · rw [if_pos q]
          constructor
          · rintro ⟨n1, _⟩
            have := n1.1.1
            omega
          · rintro ⟨n1, _⟩
            exact absurd q n1.1
        · rw [if_neg q, isNode_iff h]
          constructor
          · rintro ⟨n1, n2⟩
            exact ⟨⟨q, n2⟩, n1.2.2⟩
          · rintro ⟨n1, n2⟩
            have hbk := over_back h.ok.dim hb.1.1 hb.1.2 hd3 n1
            have bk := back h.ok.dim hb.1.1 hb.1.2 hd3 q
            exact ⟨⟨nb_rng h.ok.dim hb.1.1 hb.1.2 hd3 q, edge_of bk.1 hbk, n2⟩, n1.2⟩
      constructor
      · rintro ⟨d, hd, he⟩
        rw [List.mem_range] at hd
        unfold sideA at he
        split at he
        · rename_i q
          rw [List.mem_singleton] at he
          subst he
          have k := (hstep d hd).1 q
          have e1 : stepA s b (d : Int) = nbS s.W b (d : Int) := by unfold stepA; rw [if_neg k.1.1]
          exact ⟨d, hd, k.1, e1, by show rd s.C (stepA s b (d : Int)) ≠ 255; rw [e1]; exact k.2, rfl⟩
        · exact absurd he (List.not_mem_nil)
      · rintro ⟨d, hd, n1, n2, n3, n4⟩
        rw [n2] at n3
        refine ⟨d, List.mem_range.2 hd, ?_⟩
        unfold sideA
        rw [if_pos ((hstep d hd).2 ⟨n1, n3⟩), List.mem_singleton]
        have e1 : stepA s b (d : Int) = nbS s.W b (d : Int) := by unfold stepA; rw [if_neg n1.1]
        rw [e1, ← n2, ← n4]
    rw [h1, h2]
    exact ⟨fun q => ⟨hb, q⟩, fun q => q.2⟩
  · rw [if_neg hb]
    exact ⟨fun q => absurd q (List.not_mem_nil), fun q => absurd q.1 hb⟩
/-- Nobody comes twice. -/
theorem into_once (h : Fresh s x) (b : Int) : (intoM s x b).Pairwise (fun e e' => e.f0 ≠ e'.f0) := by
  unfold intoM
  by_cases hb : isNode s x b
  · rw [if_pos hb]
    have hr : (partC s x b).nodes.Pairwise (· < ·) := (h.good (sec s.W b).toNat).rise
    have p := h.at hb.1
    have sb := sec_rng h.ok.dim hb.1.1 hb.1.2
    have inrd : ∀ (i : Nat) e, e ∈ inA s x b i → e.f0 = rd (partC s x b).nodes (i : Int) := by
      intro i e he
      unfold inA at he
      split at he
      · rw [List.mem_singleton] at he; subst he; rfl
      · exact absurd he (List.not_mem_nil)
    have sdrd : ∀ (d : Nat) e, e ∈ sideA s x b d → e.f0 = stepA s b (d : Int) ∧ sideOk s x b (d : Int) := by
      intro i e he
      unfold sideA at he
      split at he
      · rename_i q
        rw [List.mem_singleton] at he; subst he; exact ⟨rfl, q⟩
      · exact absurd he (List.not_mem_nil)
    rw [List.pairwise_append]
    refine ⟨?_, ?_, ?_⟩
    · have key : ∀ n, n ≤ (partC s x b).nodes.length → (inL s x b n).Pairwise (fun e e' => e.f0 ≠ e'.f0) := by
        intro n
        induction n with
        | zero => intro _; simp [inL]
        | succ n ih =>
          intro hn
          rw [in_next, List.pairwise_append]
          refine ⟨ih (by omega), ?_, ?_⟩
          · unfold inA; split <;> simp
          · intro e he e' he'
            rw [inrd n e' he']
            unfold inL at he
            rw [List.mem_flatMap] at he
            obtain ⟨i, hi, he⟩ := he
            rw [List.mem_range] at hi
            rw [inrd i e he]
            have := rising hr hi hn
            omega
      exact key _ (Nat.le_refl _)
    · have key : ∀ n, n ≤ 4 → (sideL s x b n).Pairwise (fun e e' => e.f0 ≠ e'.f0) := by
        intro n
        induction n with
        | zero => intro _; simp [sideL]
        | succ n ih =>
          intro hn
          rw [side_next, List.pairwise_append]
          refine ⟨ih (by omega), ?_, ?_⟩
          · unfold sideA; split <;> simp
          · intro e he e' he'
            obtain ⟨e1, o1⟩ := sdrd n e' he'
            unfold sideL at he
            rw [List.mem_flatMap] at he
            obtain ⟨i, hi, he⟩ := he
            rw [List.mem_range] at hi
            obtain ⟨e2, o2⟩ := sdrd i e he
            rw [e1, e2]
            have out : ∀ d : Nat, sideOk s x b (d : Int) → ¬ OutE s.W s.H b (d : Int) ∧ stepA s b (d : Int) = nbS s.W b (d : Int) := by
              intro d hd
              by_cases q : OutE s.W s.H b (d : Int)
              · have := hd.1.1.1
                unfold stepA at this
                rw [if_pos q] at this
                omega
              · exact ⟨q, by unfold stepA; rw [if_neg q]⟩
            obtain ⟨a1, a2⟩ := out n o1
            obtain ⟨b1, b2⟩ := out i o2
            rw [a2, b2]
            intro q
            have := nb_inj h.ok.dim hb.1.1 hb.1.2 (by omega) (by omega) b1 a1 q
            omega
      exact key 4 (Nat.le_refl _)
    · intro e he e' he'
      unfold inL at he
      rw [List.mem_flatMap] at he
      obtain ⟨i, hi, he⟩ := he
      rw [List.mem_range] at hi
      unfold sideL at he'
      rw [List.mem_flatMap] at he'
      obtain ⟨d, hd, he'⟩ := he'
      obtain ⟨e2, o2⟩ := sdrd d e' he'
      rw [inrd i e he, e2]
      intro q
      have hm : rd (partC s x b).nodes (i : Int) ∈ (partC s x b).nodes := mem_rd.2 ⟨i, hi, rfl⟩
      rw [p.nodes, mem_nodes h.ok.dim sb, ← p.nodes, q] at hm
      exact o2.2 hm.2.1
  · rw [if_neg hb]
    exact List.Pairwise.nil
/-- WHO LEADS INTO A NODE CAN BE LED BACK FROM IT. -/
theorem into_back (h : Fresh s x) {b : Int} (e : EdgeS) (he : e ∈ intoM s x b) : inC s e.f0 ∧ e.f0 ≠ b ∧ rd s.C b ≤ e.f1 ∧ e.f1 < INF ∧ rd s.C e.f0 ≠ 255 ∧ ∃ e' : EdgeS, e' ∈ intoM s x e.f0 ∧ e'.f0 = b ∧ e'.f1 + rd s.C b = e.f1 + rd s.C e.f0 := by
  obtain ⟨hb, he⟩ := (mem_into h e).1 he
  have nb := (isNode_iff h b).1 hb
  have cb := rd_cost h.ok hb.1.1 hb.1.2
  rcases he with ⟨n1, n2, n3, n4, n5⟩ | ⟨d, hd, n1, n2, n3, n4⟩
  · have na := (isNode_iff h _).1 n1
    have t := distN_two h.ok na.1 hb.1 n2 na.2.2 nb.2.2
    rw [← n4] at t
    have hlt : e.f1 < INF := by have := t.1.2; omega
    have u := t.2.2.2.2 hlt
    refine ⟨na.1, n3, t.2.2.1 n3, hlt, na.2.2, ⟨b, distN s.W s.H s.C (sec s.W b) b e.f0⟩, (mem_into h _).2 ⟨n1, .inl ⟨hb, n2.symm, fun c => n3 c.symm, by rw [n2], fun c => n5 (t.2.2.2.1.2 c)⟩⟩, rfl, ?_⟩
    show distN s.W s.H s.C (sec s.W b) b e.f0 + rd s.C b = e.f1 + rd s.C e.f0
    omega
  · have hd3 : 0 ≤ (d : Int) ∧ (d : Int) ≤ 3 := by omega
    have r := nb_rng h.ok.dim hb.1.1 hb.1.2 hd3 n1.1
    have bk := back h.ok.dim hb.1.1 hb.1.2 hd3 n1.1
    have ob := over_back h.ok.dim hb.1.1 hb.1.2 hd3 n1
    rw [← n2] at r bk ob
    have hne : e.f0 ≠ b := by
      intro c
      have := n1.2
      rw [← n2, c] at this
      exact this rfl
    obtain ⟨t, ht⟩ : ∃ t : Nat, backS (d : Int) = (t : Int) := ⟨(backS (d : Int)).toNat, by omega⟩
    rw [ht] at bk ob
    refine ⟨r, hne, by omega, by unfold INF; omega, n3, ⟨b, rd s.C e.f0⟩, (mem_into h _).2 ⟨(isNode_iff h _).2 ⟨r, edge_of bk.1 ob, n3⟩, .inr ⟨t, by omega, ob, bk.2.2.symm, nb.2.2, rfl⟩⟩, rfl, ?_⟩
    show rd s.C e.f0 + rd s.C b = e.f1 + rd s.C e.f0
    omega
theorem into_len (h : Fresh s x) (b : Int) : (intoM s x b).length ≤ 260 := by
  unfold intoM
  by_cases hb : isNode s x b
  · rw [if_pos hb, List.length_append]
    have h1 := in_len s x b (partC s x b).nodes.length
    have h2 := side_len s x b 4
    have h3 := nodes_len (C := s.C) h.ok.dim (sec_rng h.ok.dim hb.1.1 hb.1.2)
    rw [← (h.at hb.1).nodes] at h3
    omega
  · rw [if_neg hb]
    simp
end Go.Proofs.YthgehdembghdaaaGreat.P
namespace Go.Proofs.YthgehdembghdaaaGreat.P
open Go.RowKit Go.Proofs.YthgehdembghdaaaGreatW.PrintWords Go.Proofs.YthgehdembghdaaaGreatW.PrintLast Go.Proofs.YthgehdembghdaaaGreatW.PrintMore
open Go.Proofs.YthgehdembghdaaaGreat.Geo Go.Proofs.YthgehdembghdaaaGreat.Dist
set_option linter.unusedVariables false
set_option linter.unusedSimpArgs false
variable {w w' : World} {g : Gb} {s : GridS} {m : Mb} {x : MeshS}
/-- A row of its own, of no elements, with room. -/
theorem R_room {α : Type} (d : Kd α) (e : Nat) (W : World) (base c : Nat) (z : Array Value) (hb : base ≤ W.heap.size) (hm : c ≤ maxLen) (hs : (madeCells z (c * d.sz)).size = c * d.sz) : d.R e (W.alloc (.cells (madeCells z (c * d.sz)) e)) base (fun _ => True) (.slice (some ⟨W.heap.size, 0, none⟩) 0 c) [] :=
  ⟨fun _ _ => trivial, [], ⟨by simp, .inr ⟨W.heap.size, c, _, rfl, hb, blk_new W _, Nat.zero_le _, hm, hs, by simp⟩⟩, Reps.none _ _⟩
def edgeZ : Array Value := #[.int .i64 0, .int .i64 0]
theorem run_room (n : Nat) (hn : n ≤ 1000000) (W : World) : (Instr.makeSlice 50 (.int .i64 0) (.int .i64 ((n : Int) + 1))).run Tryz.prog W = .ok (.slice (some ⟨W.heap.size, 0, none⟩) 0 (n + 1)) (W.alloc (.cells (madeCells edgeZ ((n + 1) * k53.sz)) 53)) := by
  obtain ⟨i0, hi, hzz⟩ := Option.map_eq_some_iff.1 info53
  simp only [Prod.mk.injEq] at hzz
  obtain ⟨hz0, hz1, hz2⟩ := hzz
  have hr := run_make (P := Tryz.prog) W 50 53 i0 (.agg #[(.int .i64 0), (.int .i64 0)]) Tryz.underlying50 hi hz0 .i64 .i64 0 ((n : Int) + 1) (by omega) (by omega)
    (by rw [hz2]; omega) (by omega)
  rw [hz1, show ((n : Int) + 1).toNat = n + 1 by omega] at hr
  exact hr
theorem edge_len (s : GridS) (x : MeshS) (b : Int) {n d : Nat} (hn : n ≤ 256) (hd : d ≤ 4) : ((inL s x b n ++ sideL s x b d).length + 1) * 16 ≤ 140737488355328 := by
  have h1 := in_len s x b n
  have h2 := side_len s x b d
  rw [List.length_append]
  omega
set_option maxRecDepth 100000 in
set_option maxHeartbeats 8000000 in
theorem mInto_calls (h : Net w g m s x) (hg : Good x) (b : Int) : Calls Tryz.prog 34 #[.pointer (some ⟨m.xb, 0, none⟩), .int .i64 b] w fun e w' => ∃ v, e = .returned v ∧ Kd.R k53 53 w' w.heap.size (fun _ => True) v (intoM s x b) ∧ Below w.heap.size w w' := by
  have HM := Aside0.mk h
  have HG := Aside0.mk hg
  have HF := Aside0.mk (fun (w1 : World) (h1 : Net w1 g m s x) (c : Int) => mFind_calls h1 hg c)
  unfold intoM
  by_cases hb : isNode s x b
  · rw [if_pos hb]
    have db : decide (isNode s x b) = true := decide_eq_true hb
    obtain ⟨An, Ad, nn, nd, p1, p2, hN, hD, hl, hdl⟩ := h.partAt hb.1
    have e1 : ptrC s m b = some ⟨m.pb, (sec s.W b).toNat * 3, none⟩ := by unfold ptrC; rw [if_pos hb.1]
    obtain ⟨o, ho⟩ : ∃ o, o = (sec s.W b).toNat * 3 := ⟨_, rfl⟩
    rw [← ho] at p1 e1
    obtain ⟨N, hNN⟩ : ∃ N, N = (partC s x b).nodes := ⟨_, rfl⟩
    obtain ⟨j, hj⟩ : ∃ j, j = idx (partC s x b).nodes b := ⟨_, rfl⟩
    have HJ : Aside0 (isNode s x b ∧ N = (partC s x b).nodes ∧ j = idx (partC s x b).nodes b ∧ ptrC s m b = some ⟨m.pb, o, none⟩) := ⟨hb, hNN, hj, e1⟩
    rw [← hNN] at p1 hN hl ⊢
    have HN := Aside0.mk hN
    have HL := Aside0.mk hl
    have hmk := run_room N.length (by omega)
    have hw1 : IntKind.i64.wrap ((N.length : Int) + 1) = (N.length : Int) + 1 := by rw [IntKind.wrap_i64]; omega
    clear h hg hb hN hD hl hdl ho hNN hj p2
    go_enter Tryz.func34, Tryz.ntmps34
    go_upto_region 4 with (go_at_call 78; refine (HF.out _ HM.out b).mono ?_; rw [db, e1]; rintro e w1 ⟨p, rfl, hp, hd⟩; obtain rfl : j = p := ((hp HJ.out.1).trans HJ.out.2.2.1.symm).symm; have HB1 := Aside0.mk hd.below; have p1 := pw_cell_below hd.below p1; clear hp hd)
    clear e1 db
    go_upto_region 5 with fail
    have HO2 := Aside0.mk (R_room k53 53 w1 w.heap.size (N.length + 1) edgeZ HB1.out.size (by have := HL.out; unfold maxLen; omega) (size_madeCells _ _))
    have HB2 := Aside0.mk (below_alloc HB1.out (.cells (madeCells edgeZ ((N.length + 1) * k53.sz)) 53))
    have p1 := pw_cell_below (below_alloc (Below.refl _ _) (.cells (madeCells edgeZ ((N.length + 1) * k53.sz)) 53)) p1
    obtain ⟨rb, hrb⟩ : ∃ rb, rb = w1.heap.size := ⟨_, rfl⟩
    rw [← hrb] at HO2 ⊢
    generalize w1.alloc (.cells (madeCells edgeZ ((N.length + 1) * k53.sz)) 53) = w2 at *
    clear hmk hw1 hrb HB1
    go_wp2_with fail
    go_loopg [8, 40] N.length (fun gg v8 v40 wr => ∃ i : Nat, v40 = .int .i64 i ∧ i ≤ N.length ∧ N.length - i ≤ gg ∧ Aside0 (Kd.R k53 53 wr w.heap.size (fun _ => True) v8 (inL s x b i)) ∧ Aside0 (Below w.heap.size w wr))
    case atStart => exact ⟨0, rfl, Nat.zero_le _, Nat.le_refl _, HO2, HB2⟩
    case round =>
      clear HO2 HB2
      obtain ⟨i, rfl, hi, hgg, HO, HBr⟩ := hrel
      by_cases hlt : i < N.length
      · have d1 : (i : Int) < (N.length : Int) := by omega
        have d0 : (0 : Int) ≤ (i : Int) := by omega
        obtain ⟨adN, hAN, hx⟩ := Kd.at_int (Kd.C_below HN.out HBr.out) (i : Int) d0 d1
        subst hAN
        rw [Int.toNat_natCast] at hx
        obtain ⟨a, ha⟩ : ∃ a, a = rd N (i : Int) := ⟨_, rfl⟩
        obtain ⟨v, hv⟩ : ∃ v, v = pairD (partC s x b) i j := ⟨_, rfl⟩
        rw [← ha] at hx
        have hbt := between_at (i := i) (j := j) (HM.out.below HBr.out) HG.out HJ.out.1.1 (by rw [← HJ.out.2.1]; exact hlt) (by rw [HJ.out.2.2.1]; exact idx_lt' HJ.out.1.2)
        rw [HJ.out.2.2.2, ← hv] at hbt
        have HBT := Aside0.mk hbt
        have hnx := in_next s x b i
        have hia : inA s x b i = if i ≠ j ∧ v ≠ INF then [⟨a, v⟩] else [] := by unfold inA; rw [← HJ.out.2.2.1, ← hv, ← HJ.out.2.1, ← ha]
        have HI := Aside0.mk (And.intro hi (And.intro hgg hlt))
        obtain ⟨A3, n3, e3⟩ := Kd.R_slice HO.out
        subst e3
        obtain ⟨xs, hxs⟩ : ∃ xs, xs = inL s x b i := ⟨_, rfl⟩
        have HXL : Aside0 ((xs.length + 1) * 16 ≤ 140737488355328) := ⟨by have h1 := in_len s x b i; rw [← hxs] at h1; have := HL.out; omega⟩
        rw [← hxs] at HO hnx ⊢
        clear hbt hi hgg hlt ha hv hxs
        by_cases hij : i = j
        · have dd : ((i : Int) != (j : Int)) = false := by simp [hij]
          have HNX : Aside0 (inL s x b (i + 1) = xs) := ⟨by rw [hnx, hia, if_neg (fun q => q.1 hij), List.append_nil]⟩
          clear hij hnx hia
          go_wp2_with (go_at_call 79; refine HBT.out.mono ?_; rintro e w3 ⟨rfl, hd⟩; have HO3 := Aside0.mk (Kd.R_below HO.out hd.below); have HB3 := Aside0.mk (below_step HBr.out hd.below); clear hd)
          go_roundg (N.length - (i + 1))
          case measure => have := HI.out; omega
          case rel =>
            have hh := HI.out
            have hl := HL.out
            exact ⟨i + 1, by first | rfl | (rw [w64 (n := (i : Int) + 1) (by omega) (by omega)]; rfl), by omega, Nat.le_refl _, ⟨by rw [HNX.out]; exact HO3.out⟩, HB3⟩
        · have dd : ((i : Int) != (j : Int)) = true := by simp; omega
          by_cases hv : v = INF
          · have dv : (v != 1099511627776) = false := by rw [hv]; rfl
            have HNX : Aside0 (inL s x b (i + 1) = xs) := ⟨by rw [hnx, hia, if_neg (fun q => q.2 hv), List.append_nil]⟩
            clear hij hnx hia hv
            go_wp2_with (go_at_call 79; refine HBT.out.mono ?_; rintro e w3 ⟨rfl, hd⟩; have HO3 := Aside0.mk (Kd.R_below HO.out hd.below); have HB3 := Aside0.mk (below_step HBr.out hd.below); clear hd)
            go_roundg (N.length - (i + 1))
            case measure => have := HI.out; omega
            case rel =>
              have hh := HI.out
              have hl := HL.out
              exact ⟨i + 1, by first | rfl | (rw [w64 (n := (i : Int) + 1) (by omega) (by omega)]; rfl), by omega, Nat.le_refl _, ⟨by rw [HNX.out]; exact HO3.out⟩, HB3⟩
          · have dv : (v != 1099511627776) = true := by rw [bne_iff_ne]; exact hv
            have HNX : Aside0 (inL s x b (i + 1) = xs ++ [(⟨a, v⟩ : EdgeS)]) := ⟨by rw [hnx, hia, if_pos ⟨hij, hv⟩]⟩
            clear hij hnx hia hv
            go_wp2_with (first
              | (go_at_call 79; refine HBT.out.mono ?_; rintro e w3 ⟨rfl, hd⟩; have HO3 := Aside0.mk (Kd.R_below HO.out hd.below); have HB3 := Aside0.mk (below_step HBr.out hd.below); clear hd)
              | ((with_reducible refine gate_builtin (b := .append) (xs := #[.tmp 56, .tmp 60]) rfl ?_); at_builtin; refine Kd.R_append k53 (w0 := w) w.heap.size rfl (.tmp 56) (.tmp 60) 50 53 (.agg #[(.int .i64 0), (.int .i64 0)]) 16 rfl Tryz.underlying50 info53 rfl (by decide) (by omega) (.slice A3 xs.length n3) xs (⟨a, v⟩ : EdgeS) [.int .i64 a, .int .i64 v] (fun _ => True) (fun _ => False) rfl (by first | (go_simp; done) | (go_simp; rfl)) ?aP (fun _ hk => hk.elim) ?aF ?aO ?aB ?aS ?aL ?_; (case aP => exact k53_mkM _ _ _ (⟨a, v⟩ : EdgeS)); (case aB => exact HB3.out); (case aF => exact (fun _ _ => trivial)); (case aO => exact HO3.out); (case aS => exact HB3.out.size); (case aL => exact HXL.out); intro v7 w7 ho7 hb7 hg7 hat7; have HO7 := Aside0.mk ho7; have HB7 := Aside0.mk hb7; clear ho7 hb7 hg7 hat7))
            go_roundg (N.length - (i + 1))
            case measure => have := HI.out; omega
            case rel =>
              have hh := HI.out
              have hl := HL.out
              exact ⟨i + 1, by first | rfl | (rw [w64 (n := (i : Int) + 1) (by omega) (by omega)]; rfl), by omega, Nat.le_refl _, ⟨by rw [HNX.out]; exact HO7.out⟩, HB7⟩
      · obtain rfl : i = N.length := by omega
        have d1 : decide (((N.length : Nat) : Int) < (N.length : Int)) = false := by simp
        clear hi hgg hlt p1
        have HMr := Aside0.mk (HM.out.below HBr.out)
        obtain ⟨c0, _, _, _⟩ := HMr.out.cells
        have hst : ∀ d : Nat, d < 4 → where_Step.f s.W s.H b (d : Int) = some (stepA s b (d : Int)) := fun d hd => wStep HM.out.grid.ok.dim HJ.out.1.1.1 HJ.out.1.1.2 (by omega)
        have HST := Aside0.mk hst
        have hcf : costF s.C b = rd s.C b := by unfold costF; rw [if_pos ⟨HJ.out.1.1.1, by have := HM.out.grid.clen; have := HJ.out.1.1.2; omega⟩]
        have HCF := Aside0.mk hcf
        clear hst hcf
        go_upto_region 13 with (go_at_call 87; refine (gSize_calls HMr.out.grid).mono ?_; rintro e w3 ⟨rfl, hd⟩; have HO3 := Aside0.mk (Kd.R_below HO.out hd.below); have HB3 := Aside0.mk (below_step HBr.out hd.below); clear hd)
        clear c0 HMr HO HBr
        go_wp2_with fail
        go_loopg [8, 14] 4 (fun gg v8 v14 wr => ∃ d : Nat, v14 = .int .i64 d ∧ d ≤ 4 ∧ 4 - d ≤ gg ∧ Aside0 (Kd.R k53 53 wr w.heap.size (fun _ => True) v8 (inL s x b N.length ++ sideL s x b d)) ∧ Aside0 (Below w.heap.size w wr))
        case atStart => exact ⟨0, rfl, by omega, by omega, ⟨by rw [show sideL s x b 0 = [] from rfl, List.append_nil]; exact HO3.out⟩, HB3⟩
        case round =>
          clear HO3 HB3
          obtain ⟨d, rfl, hd, hgg, HO, HBr⟩ := hrel
          by_cases hlt : d < 4
          · have d1 : (d : Int) ≤ 3 := by omega
            have hnx := side_next s x b d
            obtain ⟨a, ha⟩ : ∃ a, a = stepA s b (d : Int) := ⟨_, rfl⟩
            have hs4 := HST.out d hlt
            rw [← ha] at hs4
            have HS4 := Aside0.mk hs4
            have hso : sideA s x b d = if sideOk s x b (d : Int) then [⟨a, rd s.C b⟩] else [] := by unfold sideA; rw [ha]
            have hok : sideOk s x b (d : Int) ↔ isNode s x a ∧ sec s.W a ≠ sec s.W b := by unfold sideOk; rw [ha]
            have HI := Aside0.mk (And.intro hd (And.intro hgg hlt))
            have HMr := Aside0.mk (HM.out.below HBr.out)
            obtain ⟨A3, n3, e3⟩ := Kd.R_slice HO.out
            subst e3
            obtain ⟨xs, hxs⟩ : ∃ xs, xs = inL s x b N.length ++ sideL s x b d := ⟨_, rfl⟩
            have HXL : Aside0 ((xs.length + 1) * 16 ≤ 140737488355328) := ⟨by rw [hxs]; exact edge_len s x b HL.out (by omega)⟩
            have HXS := Aside0.mk hxs
            rw [← hxs] at HO ⊢
            clear hd hgg hlt ha hs4 hxs
            by_cases hn : isNode s x a
            · have dn : decide (isNode s x a) = true := decide_eq_true hn
              by_cases hs : sec s.W a = sec s.W b
              · obtain ⟨pa, hpa⟩ : ∃ pa, pa = ptrC s m a := ⟨_, rfl⟩
                have HQN : Aside0 (∀ w1, Net w1 g m s x → Sem.run Tryz.prog (binOp .neq 118 (.pointer pa) (.pointer (some ⟨m.pb, o, none⟩))) w1 = .ok (.bool false) w1) := ⟨fun w1 h1 => by rw [hpa, ← HJ.out.2.2.2]; exact neq_same h1 hn.1 hs HJ.out.1.1⟩
                have HNX : Aside0 (sideL s x b (d + 1) = sideL s x b d) := ⟨by rw [hnx, hso, if_neg (fun q => (hok.1 q).2 hs), List.append_nil]⟩
                have HPA := Aside0.mk hpa
                clear hn hs hok hso hnx hpa
                go_upto_region 17 with (go_at_call 88; refine (where_Step.calls _ _ _ _ _ _ HS4.out).mono ?_; rintro e w4 ⟨rfl, hd⟩; have HD4 := Aside0.mk hd; clear hd)
                go_upto_region 18 with (go_at_call 78; refine (HF.out _ (HMr.out.below HD4.out.below) a).mono ?_; rw [dn, ← HPA.out]; rintro e w5 ⟨p, rfl, _, hd⟩; have HD5 := Aside0.mk (drawn_tr HD4.out hd); clear hd)
                have hne := HQN.out w5 (HMr.out.below HD5.out.below)
                go_wp2_with fail
                go_roundg (4 - (d + 1))
                case measure => have := HI.out; omega
                case rel =>
                  have hh := HI.out
                  exact ⟨d + 1, by first | rfl | (rw [w64 (n := (d : Int) + 1) (by omega) (by omega)]; rfl), by omega, Nat.le_refl _, ⟨by rw [HNX.out, ← HXS.out]; exact Kd.R_below HO.out HD5.out.below⟩, ⟨below_step HBr.out HD5.out.below⟩⟩
              · obtain ⟨pa, hpa⟩ : ∃ pa, pa = ptrC s m a := ⟨_, rfl⟩
                have HQN : Aside0 (∀ w1, Net w1 g m s x → Sem.run Tryz.prog (binOp .neq 118 (.pointer pa) (.pointer (some ⟨m.pb, o, none⟩))) w1 = .ok (.bool true) w1) := ⟨fun w1 h1 => by rw [hpa, ← HJ.out.2.2.2]; exact neq_diff h1 hn.1 hs HJ.out.1.1⟩
                have HNX : Aside0 (sideL s x b (d + 1) = sideL s x b d ++ [(⟨a, rd s.C b⟩ : EdgeS)]) := ⟨by rw [hnx, hso, if_pos (hok.2 ⟨hn, hs⟩)]⟩
                have HPA := Aside0.mk hpa
                clear hn hs hok hso hnx hpa
                go_upto_region 17 with (go_at_call 88; refine (where_Step.calls _ _ _ _ _ _ HS4.out).mono ?_; rintro e w4 ⟨rfl, hd⟩; have HD4 := Aside0.mk hd; clear hd)
                go_upto_region 18 with (go_at_call 78; refine (HF.out _ (HMr.out.below HD4.out.below) a).mono ?_; rw [dn, ← HPA.out]; rintro e w5 ⟨p, rfl, _, hd⟩; have HD5 := Aside0.mk (drawn_tr HD4.out hd); clear hd)
                have HM5 := Aside0.mk (HMr.out.below HD5.out.below)
                obtain ⟨c0, _, _, _⟩ := HM5.out.cells
                have hne := HQN.out w5 HM5.out
                go_wp2_with (first
                  | (go_at_call 89; refine (gCost_calls HM5.out.grid b).mono ?_; rw [HCF.out]; rintro e w6 ⟨rfl, rfl⟩; have HO3 := Aside0.mk (Kd.R_below HO.out HD5.out.below); have HB3 := Aside0.mk (below_step HBr.out HD5.out.below))
                  | ((with_reducible refine gate_builtin (b := .append) (xs := #[.tmp 93, .tmp 102]) rfl ?_); at_builtin; refine Kd.R_append k53 (w0 := w) w.heap.size rfl (.tmp 93) (.tmp 102) 50 53 (.agg #[(.int .i64 0), (.int .i64 0)]) 16 rfl Tryz.underlying50 info53 rfl (by decide) (by omega) (.slice A3 xs.length n3) xs (⟨a, rd s.C b⟩ : EdgeS) [.int .i64 a, .int .i64 (rd s.C b)] (fun _ => True) (fun _ => False) rfl (by first | (go_simp; done) | (go_simp; rfl)) ?aP (fun _ hk => hk.elim) ?aF ?aO ?aB ?aS ?aL ?_; (case aP => exact k53_mkM _ _ _ (⟨a, rd s.C b⟩ : EdgeS)); (case aB => exact HB3.out); (case aF => exact (fun _ _ => trivial)); (case aO => exact HO3.out); (case aS => exact HB3.out.size); (case aL => exact HXL.out); intro v7 w7 ho7 hb7 hg7 hat7; have HO7 := Aside0.mk ho7; have HB7 := Aside0.mk hb7; clear ho7 hb7 hg7 hat7))
                go_roundg (4 - (d + 1))
                case measure => have := HI.out; omega
                case rel =>
                  have hh := HI.out
                  exact ⟨d + 1, by first | rfl | (rw [w64 (n := (d : Int) + 1) (by omega) (by omega)]; rfl), by omega, Nat.le_refl _, ⟨by rw [HNX.out, ← List.append_assoc, ← HXS.out]; exact HO7.out⟩, HB7⟩
            · have dn : decide (isNode s x a) = false := decide_eq_false hn
              have HNX : Aside0 (sideL s x b (d + 1) = sideL s x b d) := ⟨by rw [hnx, hso, if_neg (fun q => hn (hok.1 q).1), List.append_nil]⟩
              clear hn hok hso hnx
              go_upto_region 17 with (go_at_call 88; refine (where_Step.calls _ _ _ _ _ _ HS4.out).mono ?_; rintro e w4 ⟨rfl, hd⟩; have HD4 := Aside0.mk hd; clear hd)
              go_upto_region 18 with (go_at_call 78; refine (HF.out _ (HMr.out.below HD4.out.below) a).mono ?_; rw [dn]; rintro e w5 ⟨p, rfl, _, hd⟩; have HD5 := Aside0.mk (drawn_tr HD4.out hd); clear hd)
              go_wp2_with fail
              go_roundg (4 - (d + 1))
              case measure => have := HI.out; omega
              case rel =>
                have hh := HI.out
                exact ⟨d + 1, by first | rfl | (rw [w64 (n := (d : Int) + 1) (by omega) (by omega)]; rfl), by omega, Nat.le_refl _, ⟨by rw [HNX.out, ← HXS.out]; exact Kd.R_below HO.out HD5.out.below⟩, ⟨below_step HBr.out HD5.out.below⟩⟩
          · obtain rfl : d = 4 := by omega
            clear hd hgg hlt
            go_wp2_with fail
            go_ret
            exact ⟨_, rfl, HO.out, HBr.out⟩
  · rw [if_neg hb]
    have db : decide (isNode s x b) = false := decide_eq_false hb
    clear h hg hb
    go_enter Tryz.func34, Tryz.ntmps34
    go_wp2_with (go_at_call 78; refine (HF.out _ HM.out b).mono ?_; rw [db]; rintro e w1 ⟨p, rfl, hp, hd⟩; have HB1 := Aside0.mk hd.below; clear hp hd)
    go_ret
    exact ⟨_, rfl, Kd.R_nil _ _ _ _ _, HB1.out⟩
end Go.Proofs.YthgehdembghdaaaGreat.P
namespace Go.Proofs.YthgehdembghdaaaGreat.P
open Go.RowKit Go.Proofs.YthgehdembghdaaaGreatW.PrintWords Go.Proofs.YthgehdembghdaaaGreatW.PrintLast Go.Proofs.YthgehdembghdaaaGreatW.PrintMore
open Go.Proofs.YthgehdembghdaaaGreat.Geo Go.Proofs.YthgehdembghdaaaGreat.Dist
set_option linter.unusedVariables false
set_option linter.unusedSimpArgs false
variable {w w' wr w2 : World} {g : Gb} {s : GridS} {m : Mb} {x : MeshS} {W H : Int} {C : List Int} {gt mb cb : Nat}
structure WayM (w wr : World) (g : Gb) (m : Mb) (s : GridS) (x : MeshS) (W H : Int) (gt mb cb : Nat) (C : List Int) : Prop where
  net : Net wr g m s x
  box : wr.heap[gt]? = some (.cells #[.int .i64 W, .int .i64 H, .slice (some ⟨mb, 0, none⟩) C.length cb] 26 (0, 0))
  row : Kd.R (Kd.int .u8) 5 wr w.heap.size (fun b => b = mb) (.slice (some ⟨mb, 0, none⟩) C.length cb) C
  low : ∀ b, own2 g m b → w.heap.size ≤ b ∧ b ≠ mb
  below : Below w.heap.size w wr
theorem WayM.step {s2 : GridS} {x2 : MeshS} (h : WayM w wr g m s x W H gt mb cb C) (hn : Net w2 g m s2 x2) (hc : Chg (own2 g m) wr w2) : WayM w w2 g m s2 x2 W H gt mb cb C :=
  ⟨hn, hc.blk h.box (h.net.notown h.box (.inl rfl)), hc.R h.row (fun k hk q => (h.low k q).2 hk), h.low, h.below.trans (hc.below (fun b hb => (h.low b hb).1) h.below.size)⟩
theorem WayM.go (h : WayM w wr g m s x W H gt mb cb C) (hb : Below wr.heap.size wr w2) : WayM w w2 g m s x W H gt mb cb C := h.step (h.net.below hb) (Chg.of_below hb _)
theorem WayM.cost (h : WayM w wr g m s x W H gt mb cb C) {c : Nat} (hc : c < C.length) : wr.cell? ⟨mb, c, none⟩ = some (.int .u8 (rd C (c : Int))) ∧ wr.frozen? ⟨mb, c, none⟩ = false := by
  have := Kd.R_celln 0 h.row (c : Int) (by omega) (by omega)
  rw [Int.toNat_natCast] at this
  exact this
theorem WayM.start {w1 w3 : World} (h : BuiltR w w1 W H C mb cb g m) (hb : Below w1.heap.size w1 w3) (hg : gt = w1.heap.size) (hx : w3.heap[gt]? = some (.cells #[.int .i64 0, .int .i64 0, .slice none 0 0] 26 (0, 0))) :
    WayM w (((w3.setCell ⟨gt, 0, none⟩ (.int .i64 W)).setCell ⟨gt, 1, none⟩ (.int .i64 H)).setCell ⟨gt, 2, none⟩ (.slice (some ⟨mb, 0, none⟩) C.length cb)) g m (grid0 W H C) (mesh0 W H) W H gt mb cb C := by
  have hs1 := h.below.size
  have hgt : w.heap.size ≤ gt := by omega
  have hc34 : Chg (fun b => b = gt) w3 (((w3.setCell ⟨gt, 0, none⟩ (.int .i64 W)).setCell ⟨gt, 1, none⟩ (.int .i64 H)).setCell ⟨gt, 2, none⟩ (.slice (some ⟨mb, 0, none⟩) C.length cb)) := (((Chg.refl (fun b => b = gt) w3).set_ (.inl rfl) _).set_ (.inl rfl) _).set_ (.inl rfl) _
  have hn3 : Net w3 g m (grid0 W H C) (mesh0 W H) := h.net.below hb
  have hr3 : Kd.R (Kd.int .u8) 5 w3 w.heap.size (fun b => b = mb) (.slice (some ⟨mb, 0, none⟩) C.length cb) C := by
    obtain ⟨h0, inner, ho, hr⟩ := Kd.R_below h.row hb
    exact ⟨fun k hk => by simp [Value.ownBlock] at hk; exact hk.symm, inner, ho, hr.imp_ (fun _ _ hp => hp)⟩
  have hmlt : mb < w1.heap.size := by
    obtain ⟨cs, hcs⟩ := Kd.R_typed h.row mb rfl
    exact blk_lt hcs
  exact ⟨hn3.chg hc34 (fun b hb e => by subst e; exact hn3.notown hx (.inl rfl) hb) (by rintro k rfl cs; exact ⟨typ_ne hx (by decide), typ_ne hx (by decide)⟩), set_blk (set_blk (set_blk hx 0 _) 1 _) 2 _, hc34.R hr3 (fun k hk q => by subst hk; omega), h.apart, (((below_step h.below hb).setCell hgt _).setCell hgt _).setCell hgt _⟩
theorem dirty_first {n : Nat} (hn : (n : Int) = cnt W H) {j : Nat} (hj : j < n) : dirtyI (grid0 W H C) (mesh0 W H) j := by
  have : (cnt W H).toNat = n := by omega
  show (((List.replicate (cnt W H).toNat (default : Part)).getD j default).ver) ≠ rd (List.replicate (cnt W H).toNat 1) (j : Int)
  rw [this, rd_get _ (by simpa using hj), List.getElem_replicate, List.getD_eq_getElem?_getD, List.getElem?_replicate, if_pos hj]
  decide
theorem dirty_all {n : Nat} (hn : (n : Int) = cnt W H) : (dirtyL (grid0 W H C) (mesh0 W H) n).length = n := by
  unfold dirtyL
  rw [List.length_map, List.filter_eq_self.2, List.length_range]
  intro j hj
  rw [List.mem_range] at hj
  exact decide_eq_true (dirty_first hn hj)
theorem mesh0_len {n : Nat} (hn : (n : Int) = cnt W H) : (mesh0 W H).ps.length = n := by
  show (List.replicate (cnt W H).toNat (default : Part)).length = n
  rw [List.length_replicate]
  omega
/-- The first Rebuild: every sector. -/
theorem reb_first {n : Nat} (hn : (n : Int) = cnt W H) (h : WayM w wr g m (grid0 W H C) (mesh0 W H) W H gt mb cb C) : Calls Tryz.prog 23 #[.pointer (some ⟨m.xb, 0, none⟩)] wr fun e w' => ∃ x', e = .returned (.int .i64 (n : Int)) ∧ WayM w w' g m (grid0 W H C) x' W H gt mb cb C ∧ RebR (grid0 W H C) (mesh0 W H) x' ∧ Fresh (grid0 W H C) x' := by
  have hl := mesh0_len hn
  have hd := dirty_all (C := C) hn
  refine (mRebuild_calls h.net (by show (0 : Int) ≤ 100000000; omega) (fun q => absurd (show (0 : Int) = 1 from q) (by omega))).mono ?_
  rintro e w2 ⟨x', he, hnet, hr, hc⟩
  rw [hl, hd] at he
  refine ⟨x', he, h.step hnet (hc.mono (fun b hb => .inr hb)), hr, h.net.grid.ok, hnet.len, fun i hi => ?_⟩
  rw [hr.len, hl] at hi
  exact (hr.new i (by rw [hl]; exact hi) (dirty_first hn hi)).2
end Go.Proofs.YthgehdembghdaaaGreat.P
namespace Go.Proofs.YthgehdembghdaaaGreat.P
open Go.RowKit Go.Proofs.YthgehdembghdaaaGreatW.PrintWords Go.Proofs.YthgehdembghdaaaGreatW.PrintLast Go.Proofs.YthgehdembghdaaaGreatW.PrintMore
open Go.Proofs.YthgehdembghdaaaGreat.Geo Go.Proofs.YthgehdembghdaaaGreat.Dist
set_option linter.unusedVariables false
set_option linter.unusedSimpArgs false
variable {w w' : World} {g : Gb} {s : GridS} {m : Mb} {x : MeshS}
/-- Whether one of the first edges is the way back. -/
def backB (O : List EdgeS) (b vb cc va : Int) (k : Nat) : Bool := (O.take k).any fun e => decide (e.f0 = b ∧ e.f1 + vb = cc + va)
theorem edge_get (O : List EdgeS) {k : Nat} (h : k < O.length) : rd_T53 O (k : Int) = O[k] := by
  show O.getD (k : Int).toNat _ = _
  rw [Int.toNat_natCast, List.getD_eq_getElem?_getD, List.getElem?_eq_getElem h]
  rfl
theorem back_next (O : List EdgeS) (b vb cc va : Int) {k : Nat} (h : k < O.length) : backB O b vb cc va (k + 1) = (backB O b vb cc va k || decide ((rd_T53 O (k : Int)).f0 = b ∧ (rd_T53 O (k : Int)).f1 + vb = cc + va)) := by
  unfold backB
  rw [List.take_succ_eq_append_getElem h, List.any_append, edge_get O h]
  simp
set_option maxRecDepth 100000 in
set_option maxHeartbeats 8000000 in
theorem meshWays_calls (w0 h0 : Int) (A2 : Option Addr) (c2 : Nat) (l2 : List Int) (cell : Int) (w : World)
    (hr : Kd.C (Kd.int .u8) w A2 l2.length l2) (hc2 : l2.length ≤ c2) (hb2 : ∀ y ∈ l2, 0 ≤ y ∧ y ≤ 255) (hl2 : l2.length ≤ 140737488355328) :
    Calls Tryz.prog 5 #[.int .i64 w0, .int .i64 h0, .slice A2 l2.length c2, .int .i64 cell] w fun e w' => e = .returned (.bool true) ∧ Below w.heap.size w w' := by
  obtain ⟨W, H, C, hmd, hW, hH, hok⟩ := made_some w0 h0 l2 hb2 hl2
  have HR := Aside0.mk hr
  have HC2 := Aside0.mk hc2
  have HMD := Aside0.mk (hmd 2000 (Nat.le_refl _))
  have HOK := Aside0.mk hok
  clear hr hc2 hmd hok hb2 hl2 hW hH
  have hcnt := cnt_le HOK.out.dim
  obtain ⟨n, hn⟩ : ∃ n : Nat, (n : Int) = cnt W H := ⟨(cnt W H).toNat, by omega⟩
  have HN := Aside0.mk hn
  have hcl : 1 ≤ C.length ∧ C.length ≤ 1048576 := by have := HOK.out.len; have := wh_le HOK.out.dim; omega
  have HCL := Aside0.mk hcl
  have hwc := within_some cell (lo := 0) (hi := (C.length : Int) - 1) (by omega) (by omega) (by omega)
  have ra0 := Int.emod_nonneg cell (show (C.length : Int) - 1 - 0 + 1 ≠ 0 by omega)
  have ra1 := Int.emod_lt_of_pos cell (show 0 < (C.length : Int) - 1 - 0 + 1 by omega)
  obtain ⟨b, hb⟩ : ∃ b : Nat, (b : Int) = 0 + cell % ((C.length : Int) - 1 - 0 + 1) := ⟨(0 + cell % ((C.length : Int) - 1 - 0 + 1)).toNat, by omega⟩
  rw [← hb] at hwc
  have HWC := Aside0.mk hwc
  have HBC : Aside0 (b < C.length) := ⟨by omega⟩
  have iw : IntKind.i64.wrap ((C.length : Int) - 1) = (C.length : Int) - 1 := by rw [IntKind.wrap_i64]; omega
  clear hcnt hn hcl hwc ra0 ra1 hb
  go_enter Tryz.func5, Tryz.ntmps5
  go_upto_region 2 with (first
    | (go_at_call 17; refine (built_calls w0 h0 A2 c2 l2 _ HR.out HC2.out HMD.out HOK.out).mono ?_; rintro e w1 ⟨mb, cb, g, m, rfl, hbu⟩; have HBU := Aside0.mk hbu; clear hbu)
    | ((with_reducible refine gate_dst (N := 9) rfl ?_); refine box_event ?hg (N := 9) ?hd (cs := #[.int .i64 0, .int .i64 0, .slice none 0 0]) (t := 26) ?hr ?_; (case hd => rfl); (case hg => rfl); (case hr => first | (go_simp; done) | (go_simp; rfl)); intro gt hg w3 hbox hb; have z0 : w3.cell? ⟨gt, 0, none⟩ = _ := cell_blk hbox rfl; have z1 : w3.cell? ⟨gt, 1, none⟩ = _ := cell_blk hbox rfl; have z2 : w3.cell? ⟨gt, 2, none⟩ = _ := cell_blk hbox rfl; have f0 := free_blk hbox 0; have f1 := free_blk hbox 1; have f2 := free_blk hbox 2; have HX3 := Aside0.mk hbox; have HB3 := Aside0.mk hb; have HG3 := Aside0.mk hg; clear hbox hb hg))
  obtain ⟨w4, hw4⟩ : ∃ w4, w4 = (((w3.setCell ⟨gt, 0, none⟩ (.int .i64 W)).setCell ⟨gt, 1, none⟩ (.int .i64 H)).setCell ⟨gt, 2, none⟩ (.slice (some ⟨mb, 0, none⟩) C.length cb)) := ⟨_, rfl⟩
  rw [← hw4]
  have HY4 : Aside0 (WayM w w4 g m (grid0 W H C) (mesh0 W H) W H gt mb cb C) := ⟨by rw [hw4]; exact WayM.start HBU.out HB3.out HG3.out HX3.out⟩
  clear hw4 z0 z1 z2 f0 f1 f2 HX3 HB3 HG3 HBU HR HMD
  go_upto_region 5 with (go_at_call 23; refine (reb_first HN.out HY4.out).mono ?_; rintro e w5 ⟨x, rfl, hy, _, hf⟩; have HY5 := Aside0.mk hy; have HF := Aside0.mk hf; clear hy hf)
  have t2 := cell_blk (j := 2) (u := .slice (some ⟨mb, 0, none⟩) C.length cb) HY5.out.box rfl
  clear HY4
  go_upto_region 6 with (go_at_call 19; refine (herdsmanref1_Within.calls cell 0 ((C.length : Int) - 1) (b : Int) _ HWC.out).mono ?_; rintro e w6 ⟨rfl, hd⟩; have HY6 := Aside0.mk (HY5.out.go (Drawn0.below hd)); clear hd)
  clear t2 HY5 HWC iw
  obtain ⟨L, hL⟩ : ∃ L, L = intoM (grid0 W H C) x (b : Int) := ⟨_, rfl⟩
  have HLL := Aside0.mk hL
  have HLN : Aside0 (L.length ≤ 260) := ⟨by rw [hL]; exact into_len HF.out _⟩
  clear hL
  go_upto_region 7 with (go_at_call 34; refine (mInto_calls HY6.out.net HF.out.good (b : Int)).mono ?_; rw [← HLL.out]; rintro e w7 ⟨v7, rfl, ho, hd⟩; obtain ⟨A7, n7, rfl⟩ := Kd.R_slice ho; have HO7 := Aside0.mk ho; have HY7 := Aside0.mk (HY6.out.go hd); clear ho hd)
  clear HY6
  go_wp2_with fail
  go_loopg [14] L.length (fun gg v14 wr => ∃ i : Nat, v14 = .int .i64 (i : Int) ∧ i ≤ L.length ∧ L.length - i ≤ gg ∧ Aside0 (Below w7.heap.size w7 wr))
  case atStart => exact ⟨0, rfl, Nat.zero_le _, Nat.le_refl _, ⟨Below.refl _ _⟩⟩
  case round =>
    obtain ⟨i, rfl, hi, hgg, HBr⟩ := hrel
    have HYr := Aside0.mk (HY7.out.go HBr.out)
    by_cases hlt : i < L.length
    · have d1 : (i : Int) < (L.length : Int) := by omega
      obtain ⟨adL, hAL, q0, q1⟩ := at_T53 (Kd.R_reads' (Kd.R_below HO7.out HBr.out)).2.2 (i : Int) (by omega) d1
      subst hAL
      rw [edge_get L hlt] at q0 q1
      rw [Int.toNat_natCast] at q0 q1
      have hm : L[i] ∈ intoM (grid0 W H C) x (b : Int) := (congrArg (fun z => L[i] ∈ z) HLL.out).mp (List.getElem_mem hlt)
      have hbk := into_back HF.out L[i] hm
      obtain ⟨⟨ha0, ha1⟩, hne, hge, hinf, hwall, e', he', hef, hes⟩ := hbk
      have ha0' : 0 ≤ L[i].f0 := ha0
      have ha1' : L[i].f0 < W * H := ha1
      obtain ⟨a, ha⟩ : ∃ a : Nat, L[i].f0 = (a : Int) := ⟨L[i].f0.toNat, by omega⟩
      have hac : a < C.length := by have := HOK.out.len; omega
      obtain ⟨cc, hcc⟩ : ∃ cc, cc = L[i].f1 := ⟨_, rfl⟩
      have hvbx := rd_cost HOK.out (c := (b : Int)) (by omega) (by have := HOK.out.len; have := HBC.out; omega)
      have hvax := rd_cost HOK.out (c := (a : Int)) (by omega) (by omega)
      have hge' : rd C (b : Int) ≤ L[i].f1 := hge
      have hwall' : rd C L[i].f0 ≠ 255 := hwall
      have hes' : e'.f1 + rd C (b : Int) = L[i].f1 + rd C L[i].f0 := hes
      rw [ha] at q0 hne hwall' hes' he'
      rw [← hcc] at q1 hge' hinf hes'
      obtain ⟨vb, hvb⟩ : ∃ vb, vb = rd C (b : Int) := ⟨_, rfl⟩
      obtain ⟨va, hva⟩ : ∃ va, va = rd C (a : Int) := ⟨_, rfl⟩
      have kb := HYr.out.cost HBC.out
      have ka := HYr.out.cost hac
      rw [← hvb] at kb hge' hvbx hes'
      rw [← hva] at ka hwall' hvax hes'
      have ka := ka.1
      have kb := kb.1
      have t2 := cell_blk (j := 2) (u := .slice (some ⟨mb, 0, none⟩) C.length cb) HYr.out.box rfl
      unfold INF at hinf
      have HV : Aside0 ((1 ≤ vb ∧ vb ≤ 255) ∧ (1 ≤ va ∧ va ≤ 255) ∧ vb ≤ cc ∧ cc < 1099511627776) := ⟨by omega⟩
      have HE' : Aside0 (∃ e' : EdgeS, e' ∈ intoM (grid0 W H C) x (a : Int) ∧ e'.f0 = (b : Int) ∧ e'.f1 + vb = cc + va) := ⟨e', he', hef, hes'⟩
      have HA : Aside0 (∃ q : i < L.length, L[i].f0 = (a : Int) ∧ L[i].f1 = cc) := ⟨⟨hlt, ha, hcc.symm⟩⟩
      have HI := Aside0.mk (And.intro hi (And.intro hgg hlt))
      have n0 : (0 : Int) ≤ (i : Int) := by omega
      have n1 : decide ((a : Int) < 0) = false := by simp
      have n2 : decide ((C.length : Int) ≤ (a : Int)) = false := decide_eq_false (by omega)
      have n2b : decide (C.length ≤ a) = false := decide_eq_false (by omega)
      have n3 : ((a : Int) == (b : Int)) = false := by rw [beq_eq_false_iff_ne]; exact hne
      have n3b : (a == b) = false := by rw [beq_eq_false_iff_ne]; exact fun q => hne (by rw [q])
      have n3c : decide (a = b) = false := decide_eq_false (fun q => hne (by rw [q]))
      have n4 : decide (cc < vb) = false := decide_eq_false (by omega)
      have n5 : decide ((1099511627776 : Int) ≤ cc) = false := decide_eq_false (by omega)
      have n6 : (va == 255) = false := by rw [beq_eq_false_iff_ne]; exact hwall'
      have n6b : decide (va = 255) = false := decide_eq_false hwall'
      have iv : IntKind.i64.wrap vb = vb := by rw [IntKind.wrap_i64]; omega
      have iva : IntKind.i64.wrap va = va := by rw [IntKind.wrap_i64]; omega
      have m0 : (0 : Int) ≤ (a : Int) := by omega
      have m1 : (a : Int) < (C.length : Int) := by omega
      have m2 : (0 : Int) ≤ (b : Int) := by omega
      have m3 : (b : Int) < (C.length : Int) := by have := HBC.out; omega
      clear hm ha0 ha1 ha0' ha1' ha hne hge hge' hinf hwall hwall' e' he' hef hes hes' hac hcc hvbx hvax hi hgg hlt
      have HVB := Aside0.mk hvb
      have HVA := Aside0.mk hva
      clear hvb hva
      go_upto_region 11 with fail
      go_quiet (fail)
      have HYx := Aside0.mk (HYr.out.go (pw_below_drewN (Below.refl _ _) nq))
      have HBx := Aside0.mk (below_step HBr.out (pw_below_drewN (Below.refl _ _) nq))
      generalize wr.drewN nq = wx at *
      clear q0 q1 ka kb t2 HBr HYr
      obtain ⟨O, hO⟩ : ∃ O, O = intoM (grid0 W H C) x (a : Int) := ⟨_, rfl⟩
      have HOO := Aside0.mk hO
      have HON : Aside0 (O.length ≤ 260) := ⟨by rw [hO]; exact into_len HF.out _⟩
      clear hO
      go_upto_region 15 with (go_at_call 34; refine (mInto_calls HYx.out.net HF.out.good (a : Int)).mono ?_; rw [← HOO.out]; rintro e w8 ⟨v8, rfl, ho, hd⟩; obtain ⟨A8, n8, rfl⟩ := Kd.R_slice ho; have HO8 := Aside0.mk ho; have HY8 := Aside0.mk (HYx.out.go hd); have HB8 := Aside0.mk (below_step HBx.out hd); clear ho hd)
      clear HYx HBx
      go_wp2_with fail
      go_loopg [16, 18] O.length (fun gg v16 v18 wq => ∃ k : Nat, v16 = .bool (backB O (b : Int) vb cc va k) ∧ v18 = .int .i64 (k : Int) ∧ k ≤ O.length ∧ O.length - k ≤ gg ∧ Aside0 (Below w8.heap.size w8 wq))
      case atStart => exact ⟨0, rfl, rfl, Nat.zero_le _, Nat.le_refl _, ⟨Below.refl _ _⟩⟩
      case round =>
        obtain ⟨k, rfl, rfl, hk, hgk, HBq⟩ := hrel
        by_cases hlk : k < O.length
        · have HYq := Aside0.mk (HY8.out.go HBq.out)
          have k1 : (k : Int) < (O.length : Int) := by omega
          have k0 : (0 : Int) ≤ (k : Int) := by omega
          obtain ⟨adO, hAO, r0, r1⟩ := at_T53 (Kd.R_reads' (Kd.R_below HO8.out HBq.out)).2.2 (k : Int) (by omega) k1
          subst hAO
          rw [Int.toNat_natCast] at r0 r1
          obtain ⟨adL', hAL', q0, q1⟩ := at_T53 (Kd.R_reads' (Kd.R_below (Kd.R_below HO7.out HB8.out) HBq.out)).2.2 (i : Int) (by omega) d1
          have hAL2 : adL' = adL := by injection hAL'.symm
          subst hAL2
          obtain ⟨hil, hfa, hfc⟩ := HA.out
          rw [edge_get L hil, hfc, Int.toNat_natCast] at q1
          obtain ⟨y0, hy0⟩ : ∃ y0, y0 = (rd_T53 O (k : Int)).f0 := ⟨_, rfl⟩
          obtain ⟨y1, hy1⟩ : ∃ y1, y1 = (rd_T53 O (k : Int)).f1 := ⟨_, rfl⟩
          have hbn := back_next O (b : Int) vb cc va hlk
          have hmk : O[k] ∈ intoM (grid0 W H C) x (a : Int) := (congrArg (fun z => O[k] ∈ z) HOO.out).mp (List.getElem_mem hlk)
          have hbk2 := into_back HF.out O[k] hmk
          have hb1 : rd C (a : Int) ≤ O[k].f1 := hbk2.2.2.1
          have hb2 : O[k].f1 < INF := hbk2.2.2.2.1
          rw [edge_get O hlk] at hy1
          rw [← hy1] at hb1 hb2
          rw [← edge_get O hlk] at hy1
          rw [← hy0, ← hy1] at hbn
          rw [← hy0] at r0
          rw [← hy1] at r1
          rw [← HVA.out] at hb1
          have hac : (a : Int) < (C.length : Int) := m1
          have hvax := rd_cost HOK.out (c := (a : Int)) (by omega) (by have := HOK.out.len; omega)
          have hv := HV.out
          unfold INF at hb2
          have t2 := cell_blk (j := 2) (u := .slice (some ⟨mb, 0, none⟩) C.length cb) HYq.out.box rfl
          have kb := (HYq.out.cost HBC.out).1
          have ka := (HYq.out.cost (c := a) (by omega)).1
          rw [← HVB.out] at kb
          rw [← HVA.out] at ka
          have iw1 : IntKind.i64.wrap (y1 + vb) = y1 + vb := by rw [IntKind.wrap_i64]; omega
          have iw2 : IntKind.i64.wrap (cc + va) = cc + va := by rw [IntKind.wrap_i64]; omega
          obtain ⟨bk, hbk⟩ : ∃ bk, bk = backB O (b : Int) vb cc va k := ⟨_, rfl⟩
          rw [← hbk] at hbn ⊢
          have HK := Aside0.mk (And.intro hk (And.intro hgk hlk))
          have HBN := Aside0.mk hbn
          clear hbn hmk hbk2 hb1 hb2 hy0 hy1 hac hvax hv hbk hk hgk hlk hil hfa hfc q0 hAL'
          cases bk with
          | true =>
            go_wp2_with fail
            go_quiet (fail)
            go_wp2_with fail
            go_roundg (O.length - (k + 1))
            case measure => have := HK.out; omega
            case rel =>
              have hh := HK.out
              have hl := HON.out
              exact ⟨k + 1, by rw [HBN.out]; rfl, by first | rfl | (rw [w64 (n := (k : Int) + 1) (by omega) (by omega)]; rfl), by omega, Nat.le_refl _, ⟨below_step HBq.out (pw_below_drewN (Below.refl _ _) _)⟩⟩
          | false =>
            by_cases hy : y0 = (b : Int)
            · have u1 : (y0 == (b : Int)) = true := by rw [hy]; simp
              by_cases hz : y1 + vb = cc + va
              · have u2 : (y1 + vb == cc + va) = true := by rw [hz]; simp
                have HBN2 : Aside0 (backB O (b : Int) vb cc va (k + 1) = true) := ⟨by rw [HBN.out, decide_eq_true ⟨hy, hz⟩]; rfl⟩
                subst hy
                clear hz u1
                go_wp2_with fail
                go_quiet (fail)
                go_wp2_with fail
                go_roundg (O.length - (k + 1))
                case measure => have := HK.out; omega
                case rel =>
                  have hh := HK.out
                  have hl := HON.out
                  exact ⟨k + 1, by rw [HBN2.out], by first | rfl | (rw [w64 (n := (k : Int) + 1) (by omega) (by omega)]; rfl), by omega, Nat.le_refl _, ⟨below_step HBq.out (pw_below_drewN (Below.refl _ _) _)⟩⟩
              · have u2 : (y1 + vb == cc + va) = false := by rw [beq_eq_false_iff_ne]; exact hz
                have u2b : decide (y1 + vb = cc + va) = false := decide_eq_false hz
                have HBN2 : Aside0 (backB O (b : Int) vb cc va (k + 1) = false) := ⟨by rw [HBN.out, decide_eq_false (fun q => hz q.2)]; rfl⟩
                subst hy
                clear hz u1
                go_wp2_with fail
                go_quiet (fail)
                go_wp2_with fail
                go_roundg (O.length - (k + 1))
                case measure => have := HK.out; omega
                case rel =>
                  have hh := HK.out
                  have hl := HON.out
                  exact ⟨k + 1, by rw [HBN2.out], by first | rfl | (rw [w64 (n := (k : Int) + 1) (by omega) (by omega)]; rfl), by omega, Nat.le_refl _, ⟨below_step HBq.out (pw_below_drewN (Below.refl _ _) _)⟩⟩
            · have u1 : (y0 == (b : Int)) = false := by rw [beq_eq_false_iff_ne]; exact hy
              have u1b : decide (y0 = (b : Int)) = false := decide_eq_false hy
              have HBN2 : Aside0 (backB O (b : Int) vb cc va (k + 1) = false) := ⟨by rw [HBN.out, decide_eq_false (fun q => hy q.1)]; rfl⟩
              clear hy
              go_wp2_with fail
              go_quiet (fail)
              go_wp2_with fail
              go_roundg (O.length - (k + 1))
              case measure => have := HK.out; omega
              case rel =>
                have hh := HK.out
                have hl := HON.out
                exact ⟨k + 1, by rw [HBN2.out], by first | rfl | (rw [w64 (n := (k : Int) + 1) (by omega) (by omega)]; rfl), by omega, Nat.le_refl _, ⟨below_step HBq.out (pw_below_drewN (Below.refl _ _) _)⟩⟩
        · obtain rfl : k = O.length := by omega
          have k1 : decide (((O.length : Nat) : Int) < (O.length : Int)) = false := by simp
          have hbb : backB O (b : Int) vb cc va O.length = true := by
            unfold backB
            rw [List.take_length, List.any_eq_true]
            obtain ⟨e', he', h1, h2⟩ := HE'.out
            exact ⟨e', by rw [HOO.out]; exact he', decide_eq_true ⟨h1, h2⟩⟩
          rw [hbb]
          clear hbb hk hgk hlk
          go_wp2_with fail
          go_loopg [19] i (fun gg v19 wz => ∃ k : Nat, v19 = .int .i64 (k : Int) ∧ k ≤ i ∧ i - k ≤ gg ∧ Aside0 (Below wr.heap.size wr wz))
          case atStart => exact ⟨0, rfl, Nat.zero_le _, Nat.le_refl _, ⟨Below.refl _ _⟩⟩
          case round =>
            obtain ⟨k, rfl, hk, hgk, HBz⟩ := hrel
            by_cases hlk : k < i
            · have k1 : (k : Int) < (i : Int) := by omega
              have k0 : (0 : Int) ≤ (k : Int) := by omega
              obtain ⟨hil, hfa, hfc⟩ := HA.out
              have k2 : (k : Int) < (L.length : Int) := by omega
              obtain ⟨adL', hAL', q0, q1⟩ := at_T53 (Kd.R_reads' (Kd.R_below (Kd.R_below (Kd.R_below HO7.out HB8.out) HBq.out) HBz.out)).2.2 (k : Int) (by omega) k2
              have hAL2 : adL' = adL := by injection hAL'.symm
              subst hAL2
              have hkl : k < L.length := by omega
              rw [edge_get L hkl, Int.toNat_natCast] at q0
              have hon := into_once HF.out (b : Int)
              rw [← HLL.out] at hon
              have hne := List.pairwise_iff_getElem.1 hon k i hkl hil hlk
              rw [hfa] at hne
              obtain ⟨y0, hy0⟩ : ∃ y0, y0 = L[k].f0 := ⟨_, rfl⟩
              rw [← hy0] at q0 hne
              have u1 : (y0 == (a : Int)) = false := by rw [beq_eq_false_iff_ne]; exact hne
              have u1b : decide (y0 = (a : Int)) = false := decide_eq_false hne
              have HK := Aside0.mk (And.intro hk (And.intro hgk hlk))
              clear hon hne hy0 q1 hAL' hk hgk hlk
              go_wp2_with fail
              go_roundg (i - (k + 1))
              case measure => have := HK.out; omega
              case rel =>
                have hh := HK.out
                have hl := HLN.out
                have hii := HI.out
                exact ⟨k + 1, by first | rfl | (rw [w64 (n := (k : Int) + 1) (by omega) (by omega)]; rfl), by omega, Nat.le_refl _, HBz⟩
            · obtain rfl : k = i := by omega
              have k1 : decide (((k : Nat) : Int) < (k : Int)) = false := by simp
              clear hk hgk hlk
              go_wp2_with fail
              go_roundg (L.length - (k + 1))
              case measure => have := HI.out; omega
              case rel =>
                have hh := HI.out
                have hl := HLN.out
                exact ⟨k + 1, by first | rfl | (rw [w64 (n := (k : Int) + 1) (by omega) (by omega)]; rfl), by omega, Nat.le_refl _, ⟨below_step (below_step HB8.out HBq.out) HBz.out⟩⟩
    · obtain rfl : i = L.length := by omega
      have d1 : decide (((L.length : Nat) : Int) < (L.length : Int)) = false := by simp
      clear hi hgg hlt
      go_wp2_with (go_at_call 25; refine (told14_calls _).mono ?_; rintro e w2 ⟨rfl, hb⟩; have HY9 := Aside0.mk (HYr.out.go hb); clear hb)
      go_ret
      exact ⟨rfl, HY9.out.below⟩
end Go.Proofs.YthgehdembghdaaaGreat.P
namespace Go.Proofs.YthgehdembghdaaaGreat.P
open Go Go.Deep Go.RowKit Go.ChangeShapes Go.WideShapes Go.Proofs.YthgehdembghdaaaGreatW.PrintWords Go.Proofs.YthgehdembghdaaaGreatW.PrintLast Go.Proofs.YthgehdembghdaaaGreatW.PrintMore
set_option linter.unusedVariables false
set_option linter.unusedSimpArgs false
end Go.Proofs.YthgehdembghdaaaGreat.P
namespace Go.Proofs.YthgehdembghdaaaGreat.P
open Go Go.Deep Go.RowKit Go.ChangeShapes Go.WideShapes Go.Proofs.YthgehdembghdaaaGreatW.PrintWords Go.Proofs.YthgehdembghdaaaGreatW.PrintLast Go.Proofs.YthgehdembghdaaaGreatW.PrintMore
set_option linter.unusedVariables false
theorem open_nums {H : Type} {enc : TypeId × Value → H} {w : World} {base : Nat} {held : Bool} {t e : TypeId} {k : IntKind} {fuel : Nat} {cs : List Value} {x : DataW H × List MemPlace} (ht : Tryz.prog.underlying t = some (.slice e)) (he : Tryz.prog.underlying e = some (.int k)) (hc : Tryz.prog.cellsOf e = 1)
    (h : DataW.trod enc Tryz.prog w base (fun _ => true) held fuel t cs = some x) : ∃ (a : Option Addr) (cap : Nat) (l : List Int), cs = [.slice a l.length cap] ∧ Kd.C (Kd.int k) w a l.length l ∧ l.length ≤ cap ∧ l.length ≤ maxLen ∧ ∀ x ∈ l, (Lit.int k x).wf = true := by
  have key : ∀ (a : Option Addr) (len cap : Nat) (zs : List Int), ((a = none ∧ len = 0 ∧ cap = 0 ∧ zs = []) ∨ ∃ x, a = some x ∧ len ≤ cap ∧ cap ≤ maxLen ∧ zs.length = cap ∧ (∀ i, i < zs.length → w.cell? (x.add i) = some (.int k (zs.getD i 0))) ∧ ∀ n ∈ zs, (Lit.int k n).wf = true) →
      ∃ l : List Int, len = l.length ∧ Kd.C (Kd.int k) w a l.length l ∧ l.length ≤ cap ∧ l.length ≤ maxLen ∧ ∀ x ∈ l, (Lit.int k x).wf = true := by
    intro a len cap zs hz
    obtain ⟨l, e, hr, hm, hw, hl⟩ := ReadsInt.ofRowC hz
    exact ⟨l, e, Kd.C_of_reads (d := (0 : Int)) (h1 := fun _ => rfl) hr, hl, hm, hw⟩
  rcases Go.ChangeShapes.open_ints ht he hc h with ⟨hcs, _⟩ | ⟨x, l, c, zs, hcs, _, hl, hm, hz, _, hcell, hwz⟩
  · obtain ⟨l, e, r⟩ := key none 0 0 [] (.inl ⟨rfl, rfl, rfl, rfl⟩)
    exact ⟨none, 0, l, by rw [hcs, e], r⟩
  · obtain ⟨ys, e, r⟩ := key (some x) l c zs (.inr ⟨_, rfl, hl, hm, by simpa using hz, hcell, hwz⟩)
    exact ⟨some x, c, ys, by rw [hcs, e], r⟩
set_option maxRecDepth 100000 in
theorem open_slice_nums {H : Type} {enc : TypeId × Value → H} {w : World} {base b0 : Nat} {r : Reach} {held : Bool} {v : Value} {d : DataW H} {p : List MemPlace} {t e : TypeId} {k : IntKind} (ht : Tryz.prog.underlying t = some (.slice e)) (he : Tryz.prog.underlying e = some (.int k)) (hc : Tryz.prog.cellsOf e = 1) (hv : Value.okWide Tryz.prog w r b0 t v) (h : DataW.Trod enc Tryz.prog w base (fun _ => true) held t v d p) :
    ∃ (a : Option Addr) (cap : Nat) (l : List Int), v = .slice a l.length cap ∧ Kd.C (Kd.int k) w a l.length l ∧ l.length ≤ cap ∧ l.length ≤ maxLen ∧ ∀ x ∈ l, (Lit.int k x).wf = true := by
  obtain ⟨A, len, cap, rfl⟩ := okWide_slice ht hv
  obtain ⟨fuel, hf⟩ := h
  obtain ⟨a, cap', l, e2, hr, hl, hm, hw⟩ := open_nums ht he hc hf
  obtain ⟨rfl, rfl, rfl⟩ : A = a ∧ len = l.length ∧ cap = cap' := by simpa [Value.cells] using e2
  exact ⟨A, cap, l, rfl, hr, hl, hm, hw⟩
end Go.Proofs.YthgehdembghdaaaGreat.P
namespace Go.Proofs.YthgehdembghdaaaGreat.P
open Go.RowKit Go.Proofs.YthgehdembghdaaaGreatW.PrintWords Go.Proofs.YthgehdembghdaaaGreatW.PrintLast Go.Proofs.YthgehdembghdaaaGreatW.PrintMore
set_option linter.unusedVariables false
noncomputable def meshWaysH.f (n : Nat) (a0 a1 : Int) (l2 : List Int) (a3 : Int) : Option Bool := open Classical in if l2.length ≤ 140737488355328 ∧ ∀ x ∈ l2, 0 ≤ x ∧ x ≤ 255 then some true else none
theorem meshWaysH.calls (n : Nat) (a0 a1 : Int) (A2 : Option Addr) (c2 : Nat) (l2 : List Int) (a3 : Int) (r : Bool) (w : World) (hr2 : Kd.C (Kd.int .u8) w A2 l2.length l2) (hc2 : l2.length ≤ c2) (h : meshWaysH.f n a0 a1 l2 a3 = some r) :
    Calls Tryz.prog 5 #[.int .i64 a0, .int .i64 a1, .slice A2 l2.length c2, .int .i64 a3] w fun e w' => e = .returned (.bool r) ∧ Below w.heap.size w w' := by
  unfold meshWaysH.f at h
  split at h
  · rename_i q
    obtain rfl : true = r := by injection h
    exact meshWays_calls a0 a1 A2 c2 l2 a3 w hr2 hc2 q.2 q.1
  · cases h
end Go.Proofs.YthgehdembghdaaaGreat.P
namespace Go.Proofs.YthgehdembghdaaaGreat.Start
open Go
/-- The start-up word, in four parts. -/
def l1 : List Char := ([104, 97, 114, 110, 101, 115, 115] : List Nat).map Char.ofNat
def l2 : List Char := ([98, 57, 54, 100, 48, 56, 54, 55, 51, 97, 48, 52, 48, 99, 52, 55, 54, 54, 100, 98, 52, 101, 56, 50, 99, 52, 50, 54, 50, 49, 49, 56, 102, 52, 101, 55, 102, 97, 50, 50, 49, 55, 98, 51, 97, 52, 51, 100, 51, 52, 49, 48, 48, 100, 101, 51, 49, 56, 99, 56, 52, 50, 56, 100] : List Nat).map Char.ofNat
def l3 : List Char := ([99, 117, 116] : List Nat).map Char.ofNat
def l4 : List Char := ([97, 116, 32, 104, 101, 114, 100, 115, 109, 97, 110, 47, 104, 101, 114, 100, 115, 109, 97, 110, 108, 97, 119, 49, 52, 46, 77, 101, 115, 104, 68, 105, 114, 116, 121, 32, 104, 101, 114, 100, 115, 109, 97, 110, 47, 104, 101, 114, 100, 115, 109, 97, 110, 108, 97, 119, 49, 52, 46, 77, 101, 115, 104, 75, 101, 101, 112, 115, 32, 104, 101, 114, 100, 115, 109, 97, 110, 47, 104, 101, 114, 100, 115, 109, 97, 110, 108, 97, 119, 49, 52, 46, 77, 101, 115, 104, 87, 97, 121, 115, 32, 104, 101, 114, 100, 115, 109, 97, 110, 47, 104, 101, 114, 100, 115, 109, 97, 110, 108, 97, 119, 49, 52, 46, 77, 101, 115, 104, 66, 117, 105, 108, 100, 115, 32, 104, 101, 114, 100, 115, 109, 97, 110, 47, 104, 101, 114, 100, 115, 109, 97, 110, 108, 97, 119, 49, 52, 46, 77, 101, 115, 104, 78, 111, 110, 101, 32, 104, 101, 114, 100, 115, 109, 97, 110, 47, 104, 101, 114, 100, 115, 109, 97, 110, 108, 97, 119, 49, 53, 46, 82, 111, 117, 116, 101, 69, 100, 103, 101, 115, 32, 104, 101, 114, 100, 115, 109, 97, 110, 47, 104, 101, 114, 100, 115, 109, 97, 110, 108, 97, 119, 49, 53, 46, 82, 111, 117, 116, 101, 78, 111, 110, 101, 32, 104, 101, 114, 100, 115, 109, 97, 110, 47, 104, 101, 114, 100, 115, 109, 97, 110, 108, 97, 119, 49, 53, 46, 82, 111, 117, 116, 101, 69, 120, 97, 99, 116, 32, 104, 101, 114, 100, 115, 109, 97, 110, 47, 104, 101, 114, 100, 115, 109, 97, 110, 108, 97, 119, 49, 53, 46, 82, 111, 117, 116, 101, 69, 108, 100, 101, 114, 32, 104, 101, 114, 100, 115, 109, 97, 110, 47, 104, 101, 114, 100, 115, 109, 97, 110, 108, 97, 119, 49, 53, 46, 82, 111, 117, 116, 101, 75, 101, 112, 116, 32, 104, 101, 114, 100, 115, 109, 97, 110, 47, 104, 101, 114, 100, 115, 109, 97, 110, 108, 97, 119, 49, 54, 46, 73, 110, 106, 101, 99, 116, 65, 115, 107, 115, 32, 104, 101, 114, 100, 115, 109, 97, 110, 47, 104, 101, 114, 100, 115, 109, 97, 110, 108, 97, 119, 49, 54, 46, 73, 110, 106, 101, 99, 116, 83, 105, 100, 101, 115, 32, 104, 101, 114, 100, 115, 109, 97, 110, 47, 104, 101, 114, 100, 115, 109, 97, 110, 108, 97, 119, 49, 54, 46, 73, 110, 106, 101, 99, 116, 69, 108, 100, 101, 114, 32, 104, 101, 114, 100, 115, 109, 97, 110, 47, 104, 101, 114, 100, 115, 109, 97, 110, 108, 97, 119, 49, 54, 46, 73, 110, 106, 101, 99, 116, 70, 105, 101, 108, 100, 115] : List Nat).map Char.ofNat
abbrev sp : Char := Char.ofNat 32
theorem ws_app (w r : List Char) (h : ∀ c ∈ w, c ≠ sp) : wordsSigns (w ++ sp :: r) = w :: wordsSigns r := by
  induction w with
  | nil => rfl
  | cons c w ih =>
    have hc : c ≠ sp := h c (by simp)
    have hw := ih (fun x hx => h x (by simp [hx]))
    rw [List.cons_append, wordsSigns.eq_3 c _ (fun h => hc h), hw]
theorem start : Tryz.prog.initOrder = String.ofList (l1 ++ sp :: (l2 ++ sp :: (l3 ++ sp :: l4))) := by kernel_rfl
theorem words : wordsSigns Tryz.prog.initOrder.toList = l1 :: l2 :: l3 :: wordsSigns l4 := by
  rw [start, String.toList_ofList, ws_app _ _ (by decide), ws_app _ _ (by decide), ws_app _ _ (by decide)]
theorem lifts_of (P : Program) (X : List (List Char)) (h : wordsSigns P.initOrder.toList = l1 :: l2 :: l3 :: X) : P.headLifts = [] := by
  unfold Program.headLifts
  rw [h]
  kernel_rfl
theorem final_of (P : Program) (X : List (List Char)) (h : wordsSigns P.initOrder.toList = l1 :: l2 :: l3 :: X) : P.liftsFinal = false := by
  unfold Program.liftsFinal
  rw [h, lifts_of P X h]
  kernel_rfl
theorem make_of (P : Program) (X : List (List Char)) (h : wordsSigns P.initOrder.toList = l1 :: l2 :: l3 :: X) : P.make = some .cut := by
  unfold Program.make
  rw [h, lifts_of P X h]
  kernel_rfl
theorem may_of (P : Program) (X : List (List Char)) (h : wordsSigns P.initOrder.toList = l1 :: l2 :: l3 :: X) (h1 : P.laysLater = false) (h2 : P.bearsReflect = false) (h3 : P.doorRows = []) : P.mayEnter = true := by
  unfold Program.mayEnter
  rw [h, h1, h2]
  unfold Program.doorFits
  rw [h3]
  kernel_rfl
theorem refl : Tryz.prog.bearsReflect = false := by kernel_rfl
theorem later : Tryz.prog.laysLater = false := by kernel_rfl
theorem door : Tryz.prog.doorRows = [] := by kernel_rfl
theorem keysNot : Tryz.prog.plainKeys = true := by kernel_rfl
end Go.Proofs.YthgehdembghdaaaGreat.Start
namespace Go.Proofs.YthgehdembghdaaaGreat.Pure
open Go.RowKit Go.Proofs.YthgehdembghdaaaGreat.P Go.Proofs.YthgehdembghdaaaGreatW.PrintWords Go.Proofs.YthgehdembghdaaaGreatW.PrintLast Go.Proofs.YthgehdembghdaaaGreatW.PrintMore
set_option linter.unusedVariables false in
theorem MeshWays (a0 a1 : Int) (l2 : List Int) (a3 : Int) (hm : l2.length * 1 ≤ 140737488351232) (hb : ∀ x ∈ l2, (Lit.int .u8 x).wf = true) : ∃ n, meshWaysH.f n a0 a1 l2 a3 = some true :=
  ⟨0, if_pos ⟨by omega, u8_wf hb⟩⟩
end Go.Proofs.YthgehdembghdaaaGreat.Pure
namespace Go.Proofs.YthgehdembghdaaaGreat.meshWays
open Go.ChangeShapes Go.WideShapes Go.ChangeAt Go.RowKit
open Go.ChangeMaps (open_string shut_string)
set_option linter.unusedVariables false
theorem own : ownKnob Tryz.prog.godebug = none := by kernel_rfl
theorem laidOut : laidOutB Tryz.prog = true := by kernel_rfl
set_option maxRecDepth 100000 in
theorem lifted (os : Os) (started : os.Started) (H : Type) (enc : TypeId × Value → H) :
    ReturnsInHanded {} Tryz.checked os 5 .any (Rows.meshWaysSpec.pre6 enc Tryz.prog Tryz.f5 Rows.meshWaysRow.domain false) (Rows.meshWaysSpec.post enc Tryz.prog Tryz.f5 false true false false) := by
  refine returnsInHanded_of_change_sized (C := Tryz.checked) own started (by kernel_rfl) Tryz.func5
    (ChangeSpec.witness6 (enc := enc) (C := Tryz.checked) false ⟨#[], #[.int .i64 0, .int .i64 0, .slice none 0 0, .int .i64 0], []⟩ 8 (by kernel_rfl) (by kernel_rfl) (by kernel_rfl) (by kernel_rfl)) ?_
  intro W base args ds gs before hval0 hW hcnd hsz0 _
  have hsz : (DataW.weightsEach Tryz.prog (Tryz.f5.params.toList ++ Rows.meshWaysSpec.plain.varTypes Tryz.prog) (ds ++ gs)).all (· ≤ reachBytes) = true := hsz0
  have hval : ∀ (j : Nat) t v, Tryz.f5.params[j]? = some t → args[j]? = some v → Value.okWide Tryz.prog W .any base t v := hval0
  have hW' := hW
  obtain ⟨p, q, hA0, hV, rfl, hfz, hnd⟩ := hW
  have hA : DataW.TrodAll enc Tryz.prog W 0 (fun _ => true) true Tryz.f5.params.toList args.toList ds p := hA0
  rw [Tryz.params5] at hA hval hsz
  obtain ⟨v0, vs0, d0, ds0, p0, q0, hargs, rfl, rfl, h0, r0⟩ := trodAll_cons hA
  obtain ⟨v1, vs1, d1, ds1, p1, q1, rfl, rfl, rfl, h1, r1⟩ := trodAll_cons r0
  obtain ⟨v2, vs2, d2, ds2, p2, q2, rfl, rfl, rfl, h2, r2⟩ := trodAll_cons r1
  obtain ⟨v3, vs3, d3, ds3, p3, q3, rfl, rfl, rfl, h3, r3⟩ := trodAll_cons r2
  obtain ⟨rfl, rfl, rfl⟩ := trodAll_nil r3
  obtain rfl : args = #[v0, v1, v2, v3] := by cases args; simp_all
  obtain ⟨rfl, rfl⟩ := trodVars_none hV
  obtain ⟨a0, rfl, rfl, rfl, w0⟩ := open_int Tryz.underlying3 (hval 0 3 v0 rfl rfl) h0
  obtain ⟨a1, rfl, rfl, rfl, w1⟩ := open_int Tryz.underlying3 (hval 1 3 v1 rfl rfl) h1
  have k2 := h2
  have lt2 : ∀ x ∈ p2, x.block < W.heap.size := by obtain ⟨m, hm⟩ := k2; exact DataW.trod_lt m _ _ _ hm
  obtain ⟨aa2, len2, cc2, rfl⟩ := okWide_slice Tryz.underlying22 (hval 2 22 v2 rfl rfl)
  have y2 : len2 * 1 ≤ 140737488351232 := Go.Proofs.YthgehdembghdaaaGreatW.PrintWords.sized_ints hsz (j := 2) (t := 22) rfl rfl Tryz.underlying22 Tryz.underlying5 (by kernel_rfl) (by kernel_rfl) h2
  obtain ⟨a2, cap2, l2, he2, hr2, hc2, hm2, hb2⟩ := P.open_slice_nums Tryz.underlying22 Tryz.underlying5 (by kernel_rfl) (hval 2 22 _ rfl rfl) h2
  obtain ⟨rfl, rfl, rfl⟩ : a2 = aa2 ∧ l2.length = len2 ∧ cap2 = cc2 := by injection he2 with e1_ e2_ e3_; exact ⟨e1_.symm, e2_.symm, e3_.symm⟩
  obtain ⟨a3, rfl, rfl, rfl, w3⟩ := open_int Tryz.underlying3 (hval 3 3 v3 rfl rfl) h3
  clear hA0 hval0 hsz0 hsz
  obtain ⟨k, hk⟩ := Pure.MeshWays a0 a1 l2 a3 y2 hb2
  refine (P.meshWaysH.calls k a0 a1 a2 cap2 l2 a3 true W hr2 hc2 hk).mono fun e W' ⟨he, bel⟩ => ?_
  subst he
  exact ⟨_, rfl, _, _, _, [], _, [], hW', trodAll_mk1 (shut_bool Tryz.underlying4 _), (trodAll_cons_mk (shut_int Tryz.underlying3 w0) (trodAll_cons_mk (shut_int Tryz.underlying3 w1) (trodAll_cons_mk (Below.trod laidOut (by kernel_rfl) (of_decide_eq_true (by kernel_rfl)) k2 bel lt2) (trodAll_cons_mk (shut_int Tryz.underlying3 w3) trodAll_mk0)))), rfl, bel.frame _, fun h => by cases h⟩
theorem joined : joinedFacts Tryz.prog 5 Tryz.f5 Rows.meshWaysSpec Rows.meshWaysRow = true := by
  unfold joinedFacts
  rw [Start.keysNot, Start.may_of _ _ Start.words Start.later Start.refl Start.door, Start.final_of _ _ Start.words, Start.make_of _ _ Start.words]
  kernel_rfl
theorem over : Rows.meshWaysRow.holds Tryz.pinned (OpenSpec.ofChange Rows.meshWaysSpec) :=
  OpenClaim.holds_of_wide 5 Tryz.f5 rfl rfl rfl rfl rfl rfl rfl ⟨rfl, rfl, rfl, rfl, rfl⟩ rfl rfl rfl rfl rfl (by kernel_rfl) Tryz.func5 joined
    (of_decide_eq_true (by kernel_rfl)) (by unfold Func.isWrapper; first | (rw [if_pos (by decide +kernel)]; kernel_rfl) | (rw [if_neg (by decide +kernel)]; exact ⟨rfl, rfl⟩))
    (fun os started H enc _ => lifted os started H enc)
theorem proved : Rows.MeshWaysSaid := over
#print axioms proved
end Go.Proofs.YthgehdembghdaaaGreat.meshWays
namespace Go.Proofs.YthgehdembghdaaaGreat
/-- The row, under a short name, for the claim. -/
theorem meshWays_holds : Rows.MeshWaysSaid := meshWays.proved
end Go.Proofs.YthgehdembghdaaaGreat
