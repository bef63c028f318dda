/- Edges: the walks of edged and edges; has; the closures of CheckColors. -/
import Derived.Test.YtgpacajlfclobaaE
namespace Go.Proofs.Ytgpacajlfclobaa
open Go.RowKit

def eBad (n : Int) (e : Int × Int) : Bool := decide (e.1 < 0) || decide (n ≤ e.1) || decide (e.2 < 0) || decide (n ≤ e.2) || e.1 == e.2
theorem eBad_no {n : Int} {e : Int × Int} (h : eBad n e = false) : (0 ≤ e.1 ∧ e.1 < n) ∧ (0 ≤ e.2 ∧ e.2 < n) ∧ e.1 ≠ e.2 := by
  unfold eBad at h
  simp only [Bool.or_eq_false_iff, decide_eq_false_iff_not, beq_eq_false_iff_ne] at h
  omega
def edgedB (n : Int) (es : List (Int × Int)) : Bool := decide (0 ≤ n) && decide (n ≤ 12) && !(es.any (eBad n))
theorem edged_ok {n : Int} {es : List (Int × Int)} (h : edgedB n es = true) : 0 ≤ n ∧ n ≤ 12 ∧ ∀ e ∈ es, (0 ≤ e.1 ∧ e.1 < n) ∧ (0 ≤ e.2 ∧ e.2 < n) ∧ e.1 ≠ e.2 := by
  unfold edgedB at h
  rw [Bool.and_eq_true, Bool.and_eq_true, decide_eq_true_iff, decide_eq_true_iff, Bool.not_eq_true', List.any_eq_false] at h
  exact ⟨h.1.1, h.1.2, fun e he => eBad_no (by simpa using h.2 e he)⟩
theorem edged1_any (x y n : Int) (p : Nat) (w : World) (hp : w.cell? ⟨p, 0, none⟩ = some (.int .i64 n)) : Calls Try.prog 45 #[.agg #[.int .i64 x, .int .i64 y], .pointer (some ⟨p, 0, none⟩)] w fun e w' => e = .returned (.bool (eBad n (x, y))) ∧ Below w.heap.size w w' := by
  have HBl : Hid (∀ o, Below w.heap.size w (w.alloc o)) := Lib.hid fun o => (Below.refl _ _).alloc (Nat.le_refl _) _
  have hpw : p < w.heap.size := block_lt_of_cell hp
  have he : eBad n (x, y) = (decide (x < 0) || decide (n ≤ x) || decide (y < 0) || decide (n ≤ y) || x == y) := rfl
  rw [he]
  clear he
  by_cases h0 : x < 0
  · have e : (decide (x < 0) || decide (n ≤ x) || decide (y < 0) || decide (n ≤ y) || x == y) = true := by simp [h0]
    rw [e]; clear e
    go_enter Try.func45, Try.ntmps45
    go_wp2_with fail
    go_ret
    exact ⟨rfl, HBl.out _⟩
  by_cases h1 : n ≤ x
  · have e : (decide (x < 0) || decide (n ≤ x) || decide (y < 0) || decide (n ≤ y) || x == y) = true := by simp [h1]
    rw [e]; clear e
    go_enter Try.func45, Try.ntmps45
    go_wp2_with fail
    go_ret
    exact ⟨rfl, HBl.out _⟩
  by_cases h2 : y < 0
  · have e : (decide (x < 0) || decide (n ≤ x) || decide (y < 0) || decide (n ≤ y) || x == y) = true := by simp [h2]
    rw [e]; clear e
    go_enter Try.func45, Try.ntmps45
    go_wp2_with fail
    go_ret
    exact ⟨rfl, HBl.out _⟩
  by_cases h3 : n ≤ y
  · have e : (decide (x < 0) || decide (n ≤ x) || decide (y < 0) || decide (n ≤ y) || x == y) = true := by simp [h3]
    rw [e]; clear e
    go_enter Try.func45, Try.ntmps45
    go_wp2_with fail
    go_ret
    exact ⟨rfl, HBl.out _⟩
  have e : (decide (x < 0) || decide (n ≤ x) || decide (y < 0) || decide (n ≤ y) || x == y) = (x == y) := by simp [h0, h1, h2, h3]
  rw [e]; clear e
  cases hxy : (x == y)
  all_goals
    go_enter Try.func45, Try.ntmps45
    go_wp2_with fail
    go_ret
    exact ⟨rfl, HBl.out _⟩

set_option maxHeartbeats 1000000 in
theorem idx_edge (q : Nat) (p : Int × Int → Bool) (xs : List (Int × Int)) (a : Option Addr) (cap : Nat) (w : World) (hin : MovesIn w a xs) (hl : xs.length ≤ 1000)
    (hp : ∀ k w', k < xs.length → Below w.heap.size w w' → Calls Try.prog 45 #[.agg #[.int .i64 (xs.getD k (0, 0)).1, .int .i64 (xs.getD k (0, 0)).2], .pointer (some ⟨q, 0, none⟩)] w' fun e w'' => e = .returned (.bool (p (xs.getD k (0, 0)))) ∧ Below w'.heap.size w' w'') :
    Calls Try.prog 47 #[.slice a xs.length cap, .func (.func 45) #[] #[.pointer (some ⟨q, 0, none⟩)]] w (AnyPost xs p w) := by
  have HI := Lib.hid hin; have HP := Lib.hid hp
  clear hin hp
  go_enter Try.func47, Try.ntmps47
  go_wp2_with fail
  go_loopw [8] (fun i wr => ∃ k : Nat, k ≤ xs.length ∧ i = .int .i64 k ∧ NoneYet xs p k ∧ Below w.heap.size w wr) (fun i _ => xs.length - (intOf i).toNat)
  case atStart => exact ⟨0, Nat.zero_le _, rfl, NoneYet.zero, Below.refl _ _⟩
  case round =>
    obtain ⟨k, hk, rfl, hny, hb⟩ := hrel
    by_cases hlt : k < xs.length
    · have HB := Lib.hid hb; have HN := Lib.hid hny; clear hny
      obtain ⟨b, off, rfl, hc1, hc2⟩ := HI.out.below hb k hlt
      have HC := Lib.hid (HP.out k wr hlt hb)
      clear hb
      generalize hx : xs.getD k (0, 0) = x at *
      have HX := Lib.hid hx; clear hx
      obtain ⟨x1, x2⟩ := x
      have hc1 : wr.cell? ⟨b, off + k * 2, none⟩ = some (.int .i64 x1) := hc1
      have hc2 : wr.cell? ⟨b, off + k * 2 + 1, none⟩ = some (.int .i64 x2) := hc2
      have HC : Hid (Calls Try.prog 45 #[.agg #[.int .i64 x1, .int .i64 x2], .pointer (some ⟨q, 0, none⟩)] wr fun e w'' => e = .returned (.bool (p (x1, x2))) ∧ Below wr.heap.size wr w'') := HC
      cases hpx : p (x1, x2)
      · rw [hpx] at HC
        have HPX := Lib.hid hpx; clear hpx
        go_wp2_with (first | (go_at_call 45; refine HC.out.mono ?_; rintro e w2 ⟨rfl, hb2⟩))
        go_roundw
        case rel => exact ⟨k + 1, by omega, by go_num, HN.out.next (d := (0, 0)) hlt (by rw [HX.out]; exact HPX.out), HB.out.trans (hb2.mono HB.out.size)⟩
        case measure => simp [intOf]; omega
      · rw [hpx] at HC
        have HPX := Lib.hid hpx; clear hpx
        go_wp2_with (first | (go_at_call 45; refine HC.out.mono ?_; rintro e w2 ⟨rfl, hb2⟩))
        go_ret
        exact ⟨k, rfl, by rw [any_here (d := (0, 0)) hlt (by rw [HX.out]; exact HPX.out)]; simp, HB.out.trans (hb2.mono HB.out.size)⟩
    · obtain rfl : k = xs.length := by omega
      go_wp2_with fail
      go_ret
      exact ⟨-1, rfl, by rw [hny.fin]; rfl, hb⟩
theorem con_edge (q : Nat) (p : Int × Int → Bool) (xs : List (Int × Int)) (a : Option Addr) (cap : Nat) (w : World) (hin : MovesIn w a xs) (hl : xs.length ≤ 1000)
    (hp : ∀ k w', k < xs.length → Below w.heap.size w w' → Calls Try.prog 45 #[.agg #[.int .i64 (xs.getD k (0, 0)).1, .int .i64 (xs.getD k (0, 0)).2], .pointer (some ⟨q, 0, none⟩)] w' fun e w'' => e = .returned (.bool (p (xs.getD k (0, 0)))) ∧ Below w'.heap.size w' w'') :
    Calls Try.prog 33 #[.slice a xs.length cap, .func (.func 45) #[] #[.pointer (some ⟨q, 0, none⟩)]] w fun e w' => e = .returned (.bool (xs.any p)) ∧ Below w.heap.size w w' := by
  have HC := Lib.hid (idx_edge q p xs a cap w hin hl hp)
  clear hin hp
  go_enter Try.func33, Try.ntmps33
  go_wp2_with (first | (go_at_call 47; refine HC.out.mono ?_; rintro e w2 ⟨r, rfl, hr, hb2⟩))
  go_wp2_with fail
  go_ret
  exact ⟨rfl, hb2⟩

set_option maxHeartbeats 1000000 in
theorem edged_any (n : Int) (es : List (Int × Int)) (a : Option Addr) (cap : Nat) (w : World) (hin : MovesIn w a es) (hl : es.length ≤ 1000) :
    Calls Try.prog 30 #[.int .i64 n, .slice a es.length cap] w fun e w' => e = .returned (.bool (edgedB n es)) ∧ Below w.heap.size w w' := by
  have hbl : Below w.heap.size w (w.alloc (.cells #[.int .i64 n] 3)) := (Below.refl _ _).alloc (Nat.le_refl _) _
  have hc0 : (w.alloc (.cells #[.int .i64 n] 3)).cell? ⟨w.heap.size, 0, none⟩ = some (.int .i64 n) := by simp [go_sem]
  have HC := Lib.hid (con_edge w.heap.size (eBad n) es a cap _ (hin.below hbl) hl fun j w'' _ hb2 => edged1_any _ _ _ _ w'' (keep hc0 hb2))
  have HB0 := Lib.hid hbl
  have hsz : w.heap.size ≤ (w.alloc (.cells #[.int .i64 n] 3)).heap.size := by simp
  clear hbl hc0 hin
  unfold edgedB
  by_cases h0 : 0 ≤ n
  · by_cases h1 : n ≤ 12
    · rw [decide_eq_true h0, decide_eq_true h1, Bool.true_and, Bool.true_and]
      generalize es.any (eBad n) = B at *
      cases B
      all_goals
        go_enter Try.func30, Try.ntmps30
        go_wp2_with fail
        refine HC.out.mono ?_; rintro e w1 ⟨rfl, hb1⟩
        go_wp2_with fail
        go_ret
        exact ⟨rfl, HB0.out.trans (hb1.mono hsz)⟩
    · rw [decide_eq_true h0, decide_eq_false h1, Bool.true_and, Bool.false_and]
      go_enter Try.func30, Try.ntmps30
      go_wp2_with fail
      go_ret
      exact ⟨rfl, HB0.out⟩
  · rw [decide_eq_false h0, Bool.false_and, Bool.false_and]
    go_enter Try.func30, Try.ntmps30
    go_wp2_with fail
    go_ret
    exact ⟨rfl, HB0.out⟩

set_option maxRecDepth 100000 in
set_option maxHeartbeats 1000000 in
theorem edges_any (n : Int) (es : List (Int × Int)) (a : Option Addr) (cap : Nat) (w : World) (hin : MovesIn w a es) (hl : es.length ≤ 1000) :
    Calls Try.prog 35 #[.int .i64 n, .slice a es.length cap] w fun e w' => e = .returned (.bool (!(es.any (eBad n)))) ∧ Below w.heap.size w w' := by
  have HI := Lib.hid hin
  have HYes : Hid (∀ k, k < es.length → eBad n (es.getD k (0, 0)) = true → (!(es.any (eBad n))) = false) := Lib.hid fun k hk h => by rw [any_here (d := (0, 0)) hk h]; rfl
  have HNo : Hid (NoneYet es (eBad n) es.length → (!(es.any (eBad n))) = true) := Lib.hid fun h => by rw [h.fin]; rfl
  clear hin
  generalize (!(es.any (eBad n))) = E at *
  go_enter Try.func35, Try.ntmps35
  go_wp2_with fail
  go_loopw [5] (fun i wr => ∃ k : Nat, k ≤ es.length ∧ i = .int .i64 k ∧ NoneYet es (eBad n) k ∧ Below w.heap.size w wr) (fun i _ => es.length - (intOf i).toNat)
  case atStart => exact ⟨0, Nat.zero_le _, rfl, NoneYet.zero, Below.refl _ _⟩
  case round =>
    obtain ⟨k, hk, rfl, hny, hb⟩ := hrel
    by_cases hlt : k < es.length
    · have hki : (k : Int) < (es.length : Int) := by omega
      obtain ⟨b, off, rfl, hc1, hc2⟩ := HI.out.below hb k hlt
      have HB := Lib.hid hb
      have HYk := Lib.hid (HYes.out k hlt)
      have HNx := Lib.hid (fun h => hny.next (d := (0, 0)) hlt h)
      clear hb hny
      generalize es.getD k (0, 0) = m at *
      obtain ⟨x, y⟩ := m
      have hc1 : wr.cell? ⟨b, off + k * 2, none⟩ = some (.int .i64 x) := hc1
      have hc2 : wr.cell? ⟨b, off + k * 2 + 1, none⟩ = some (.int .i64 y) := hc2
      by_cases h0 : x < 0
      · have e : eBad n (x, y) = true := by unfold eBad; simp [h0]
        have hE := HYk.out e
        subst hE
        clear e
        go_wp2_with fail
        go_quiet (fail)
        go_wp2_with fail
        go_ret
        exact ⟨rfl, HB.out.trans (below_drewN (Below.refl _ _) _)⟩
      by_cases h1 : n ≤ x
      · have e : eBad n (x, y) = true := by unfold eBad; simp [h1]
        have hE := HYk.out e
        subst hE
        clear e
        go_wp2_with fail
        go_quiet (fail)
        go_wp2_with fail
        go_ret
        exact ⟨rfl, HB.out.trans (below_drewN (Below.refl _ _) _)⟩
      by_cases h2 : y < 0
      · have e : eBad n (x, y) = true := by unfold eBad; simp [h2]
        have hE := HYk.out e
        subst hE
        clear e
        go_wp2_with fail
        go_quiet (fail)
        go_wp2_with fail
        go_ret
        exact ⟨rfl, HB.out.trans (below_drewN (Below.refl _ _) _)⟩
      by_cases h3 : n ≤ y
      · have e : eBad n (x, y) = true := by unfold eBad; simp [h3]
        have hE := HYk.out e
        subst hE
        clear e
        go_wp2_with fail
        go_quiet (fail)
        go_wp2_with fail
        go_ret
        exact ⟨rfl, HB.out.trans (below_drewN (Below.refl _ _) _)⟩
      by_cases h4 : x = y
      · have e : eBad n (x, y) = true := by unfold eBad; simp [h4]
        have hE := HYk.out e
        subst hE
        clear e
        go_wp2_with fail
        go_quiet (fail)
        go_wp2_with fail
        go_ret
        exact ⟨rfl, HB.out.trans (below_drewN (Below.refl _ _) _)⟩
      have e : eBad n (x, y) = false := by unfold eBad; simp [h0, h1, h2, h3, h4]
      have HN := Lib.hid (HNx.out e)
      have hb4 : (x == y) = false := by rw [beq_eq_false_iff_ne]; exact h4
      clear e
      go_wp2_with fail
      go_quiet (fail)
      go_wp2_with fail
      go_roundw
      case rel => exact ⟨k + 1, by omega, by go_num, HN.out, HB.out.trans (below_drewN (Below.refl _ _) _)⟩
      case measure => simp [intOf]; omega
    · obtain rfl : k = es.length := by omega
      have hE := HNo.out hny
      subst hE
      have HB := Lib.hid hb
      clear hny hb
      go_wp2_with fail
      go_ret
      exact ⟨rfl, HB.out⟩

set_option maxHeartbeats 1000000 in
theorem has_any (xs : List Nat) (a : Option Addr) (cap c : Nat) (w : World) (hin : NatsIn w a xs) (hl : xs.length ≤ 1000) :
    Calls Try.prog 36 #[.slice a xs.length cap, .int .i64 (c : Nat)] w fun e w' => e = .returned (.bool (xs.any (· == c))) ∧ w = w' := by
  have HI := Lib.hid hin
  have HYes : Hid (∀ k, k < xs.length → xs.getD k 0 = c → xs.any (· == c) = true) := Lib.hid fun k hk h => any_here (d := 0) hk (by rw [h]; simp)
  have HNo : Hid (NoneYet xs (· == c) xs.length → xs.any (· == c) = false) := Lib.hid fun h => h.fin
  clear hin
  generalize xs.any (· == c) = E at *
  go_enter Try.func36, Try.ntmps36
  go_wp2_with fail
  go_loopw [5] (fun i wr => ∃ k : Nat, k ≤ xs.length ∧ i = .int .i64 k ∧ NoneYet xs (· == c) k ∧ w = wr) (fun i _ => xs.length - (intOf i).toNat)
  case atStart => exact ⟨0, Nat.zero_le _, rfl, NoneYet.zero, rfl⟩
  case round =>
    obtain ⟨k, hk, rfl, hny, rfl⟩ := hrel
    by_cases hlt : k < xs.length
    · have hki : (k : Int) < (xs.length : Int) := by omega
      obtain ⟨b, off, rfl, hc1⟩ := HI.out k hlt
      have HYk := Lib.hid (HYes.out k hlt)
      have HNx := Lib.hid (fun h => hny.next (d := 0) hlt h)
      clear hny
      generalize xs.getD k 0 = x at *
      by_cases hx : x = c
      · have hE := HYk.out hx
        subst hE hx
        go_wp2_with fail
        go_ret
        exact ⟨rfl, rfl⟩
      · have HN := Lib.hid (HNx.out (by simp [hx]))
        have hxb : ((x : Int) == (c : Int)) = false := by rw [beq_eq_false_iff_ne]; omega
        have hxc : ¬ (x : Int) = (c : Int) := by omega
        go_wp2_with fail
        go_roundw
        case rel => exact ⟨k + 1, by omega, by go_num, HN.out, trivial⟩
        case measure => simp [intOf]; omega
    · obtain rfl : k = xs.length := by omega
      have hE := HNo.out hny
      subst hE
      clear hny
      go_wp2_with fail
      go_ret
      exact ⟨rfl, rfl⟩

def cBad (c : Int) : Bool := decide (c < 0) || decide (7 < c)
theorem check1_any (c : Int) (w : World) : Calls Try.prog 32 #[.int .i64 c] w fun e w' => e = .returned (.bool (cBad c)) ∧ Below w.heap.size w w' := by
  unfold cBad
  by_cases h0 : c < 0
  · rw [decide_eq_true h0, Bool.true_or]
    go_enter Try.func32, Try.ntmps32
    go_wp2_with fail
    go_ret
    exact ⟨rfl, Below.refl _ _⟩
  · rw [decide_eq_false h0, Bool.false_or]
    by_cases h1 : 7 < c
    · rw [decide_eq_true h1]
      go_enter Try.func32, Try.ntmps32
      go_wp2_with fail
      go_ret
      exact ⟨rfl, Below.refl _ _⟩
    · rw [decide_eq_false h1]
      go_enter Try.func32, Try.ntmps32
      go_wp2_with fail
      go_ret
      exact ⟨rfl, Below.refl _ _⟩
def clashB (cs : List Int) (e : Int × Int) : Bool := cs.getD e.1.toNat 0 == cs.getD e.2.toNat 0
set_option maxHeartbeats 1000000 in
theorem check2_any (cs : List Int) (a : Option Addr) (cap : Nat) (x y : Int) (q : Nat) (w : World) (hq : w.cell? ⟨q, 0, none⟩ = some (.slice a cs.length cap)) (hin : IntsIn w a cs) (hx : 0 ≤ x ∧ x < cs.length) (hy : 0 ≤ y ∧ y < cs.length) :
    Calls Try.prog 34 #[.agg #[.int .i64 x, .int .i64 y], .pointer (some ⟨q, 0, none⟩)] w fun e w' => e = .returned (.bool (clashB cs (x, y))) ∧ Below w.heap.size w w' := by
  have HBl : Hid (∀ o n, Below w.heap.size w ((w.alloc o).drewN n)) := Lib.hid fun o n => below_drewN ((Below.refl _ _).alloc (Nat.le_refl _) _) n
  have hqw : q < w.heap.size := block_lt_of_cell hq
  obtain ⟨x, rfl⟩ := Int.eq_ofNat_of_zero_le hx.1
  obtain ⟨y, rfl⟩ := Int.eq_ofNat_of_zero_le hy.1
  have hxl : x < cs.length := by omega
  have hyl : y < cs.length := by omega
  have hxi : (x : Int) < (cs.length : Int) := by omega
  have hyi : (y : Int) < (cs.length : Int) := by omega
  obtain ⟨b, off, rfl, c1⟩ := hin x hxl
  obtain ⟨b', off', e2, c2⟩ := hin y hyl
  obtain ⟨rfl, rfl⟩ : b = b' ∧ off = off' := by simpa using e2
  have hbw : b < w.heap.size := block_lt_of_cell c1
  have hcl : clashB cs ((x : Int), (y : Int)) = (cs.getD x 0 == cs.getD y 0) := by simp [clashB]
  rw [hcl]
  clear hcl hin e2 hx hy
  generalize cs.getD x 0 = u at *
  generalize cs.getD y 0 = v at *
  generalize huv : (u == v) = B
  go_enter Try.func34, Try.ntmps34
  go_wp2_with fail
  go_quiet (fail)
  go_wp2_with fail
  go_ret
  exact ⟨rfl, HBl.out _ _⟩

set_option maxHeartbeats 1000000 in
theorem idx_chk1  (p : Int → Bool) (xs : List (Int)) (a : Option Addr) (cap : Nat) (w : World) (hin : IntsIn w a xs) (hl : xs.length ≤ 1000)
    (hp : ∀ k w', k < xs.length → Below w.heap.size w w' → Calls Try.prog 32 #[.int .i64 (xs.getD k 0)] w' fun e w'' => e = .returned (.bool (p (xs.getD k 0))) ∧ Below w'.heap.size w' w'') :
    Calls Try.prog 46 #[.slice a xs.length cap, .func (.func 32) #[] #[]] w (AnyPost xs p w) := by
  have HI := Lib.hid hin; have HP := Lib.hid hp
  clear hin hp
  go_enter Try.func46, Try.ntmps46
  go_wp2_with fail
  go_loopw [8] (fun i wr => ∃ k : Nat, k ≤ xs.length ∧ i = .int .i64 k ∧ NoneYet xs p k ∧ Below w.heap.size w wr) (fun i _ => xs.length - (intOf i).toNat)
  case atStart => exact ⟨0, Nat.zero_le _, rfl, NoneYet.zero, Below.refl _ _⟩
  case round =>
    obtain ⟨k, hk, rfl, hny, hb⟩ := hrel
    by_cases hlt : k < xs.length
    · have HB := Lib.hid hb; have HN := Lib.hid hny; clear hny
      obtain ⟨b, off, rfl, hc1⟩ := HI.out.below hb k hlt
      have HC := Lib.hid (HP.out k wr hlt hb)
      clear hb
      generalize hx : xs.getD k 0 = x at *
      have HX := Lib.hid hx; clear hx
      cases hpx : p x
      · rw [hpx] at HC
        have HPX := Lib.hid hpx; clear hpx
        go_wp2_with (first | (go_at_call 32; refine HC.out.mono ?_; rintro e w2 ⟨rfl, hb2⟩))
        go_roundw
        case rel => exact ⟨k + 1, by omega, by go_num, HN.out.next (d := 0) hlt (by rw [HX.out]; exact HPX.out), HB.out.trans (hb2.mono HB.out.size)⟩
        case measure => simp [intOf]; omega
      · rw [hpx] at HC
        have HPX := Lib.hid hpx; clear hpx
        go_wp2_with (first | (go_at_call 32; refine HC.out.mono ?_; rintro e w2 ⟨rfl, hb2⟩))
        go_ret
        exact ⟨k, rfl, by rw [any_here (d := 0) hlt (by rw [HX.out]; exact HPX.out)]; simp, HB.out.trans (hb2.mono HB.out.size)⟩
    · obtain rfl : k = xs.length := by omega
      go_wp2_with fail
      go_ret
      exact ⟨-1, rfl, by rw [hny.fin]; rfl, hb⟩
theorem con_chk1  (p : Int → Bool) (xs : List (Int)) (a : Option Addr) (cap : Nat) (w : World) (hin : IntsIn w a xs) (hl : xs.length ≤ 1000)
    (hp : ∀ k w', k < xs.length → Below w.heap.size w w' → Calls Try.prog 32 #[.int .i64 (xs.getD k 0)] w' fun e w'' => e = .returned (.bool (p (xs.getD k 0))) ∧ Below w'.heap.size w' w'') :
    Calls Try.prog 31 #[.slice a xs.length cap, .func (.func 32) #[] #[]] w fun e w' => e = .returned (.bool (xs.any p)) ∧ Below w.heap.size w w' := by
  have HC := Lib.hid (idx_chk1  p xs a cap w hin hl hp)
  clear hin hp
  go_enter Try.func31, Try.ntmps31
  go_wp2_with (first | (go_at_call 46; refine HC.out.mono ?_; rintro e w2 ⟨r, rfl, hr, hb2⟩))
  go_wp2_with fail
  go_ret
  exact ⟨rfl, hb2⟩

set_option maxHeartbeats 1000000 in
theorem idx_chk2 (q : Nat) (p : Int × Int → Bool) (xs : List (Int × Int)) (a : Option Addr) (cap : Nat) (w : World) (hin : MovesIn w a xs) (hl : xs.length ≤ 1000)
    (hp : ∀ k w', k < xs.length → Below w.heap.size w w' → Calls Try.prog 34 #[.agg #[.int .i64 (xs.getD k (0, 0)).1, .int .i64 (xs.getD k (0, 0)).2], .pointer (some ⟨q, 0, none⟩)] w' fun e w'' => e = .returned (.bool (p (xs.getD k (0, 0)))) ∧ Below w'.heap.size w' w'') :
    Calls Try.prog 47 #[.slice a xs.length cap, .func (.func 34) #[] #[.pointer (some ⟨q, 0, none⟩)]] w (AnyPost xs p w) := by
  have HI := Lib.hid hin; have HP := Lib.hid hp
  clear hin hp
  go_enter Try.func47, Try.ntmps47
  go_wp2_with fail
  go_loopw [8] (fun i wr => ∃ k : Nat, k ≤ xs.length ∧ i = .int .i64 k ∧ NoneYet xs p k ∧ Below w.heap.size w wr) (fun i _ => xs.length - (intOf i).toNat)
  case atStart => exact ⟨0, Nat.zero_le _, rfl, NoneYet.zero, Below.refl _ _⟩
  case round =>
    obtain ⟨k, hk, rfl, hny, hb⟩ := hrel
    by_cases hlt : k < xs.length
    · have HB := Lib.hid hb; have HN := Lib.hid hny; clear hny
      obtain ⟨b, off, rfl, hc1, hc2⟩ := HI.out.below hb k hlt
      have HC := Lib.hid (HP.out k wr hlt hb)
      clear hb
      generalize hx : xs.getD k (0, 0) = x at *
      have HX := Lib.hid hx; clear hx
      obtain ⟨x1, x2⟩ := x
      have hc1 : wr.cell? ⟨b, off + k * 2, none⟩ = some (.int .i64 x1) := hc1
      have hc2 : wr.cell? ⟨b, off + k * 2 + 1, none⟩ = some (.int .i64 x2) := hc2
      have HC : Hid (Calls Try.prog 34 #[.agg #[.int .i64 x1, .int .i64 x2], .pointer (some ⟨q, 0, none⟩)] wr fun e w'' => e = .returned (.bool (p (x1, x2))) ∧ Below wr.heap.size wr w'') := HC
      cases hpx : p (x1, x2)
      · rw [hpx] at HC
        have HPX := Lib.hid hpx; clear hpx
        go_wp2_with (first | (go_at_call 34; refine HC.out.mono ?_; rintro e w2 ⟨rfl, hb2⟩))
        go_roundw
        case rel => exact ⟨k + 1, by omega, by go_num, HN.out.next (d := (0, 0)) hlt (by rw [HX.out]; exact HPX.out), HB.out.trans (hb2.mono HB.out.size)⟩
        case measure => simp [intOf]; omega
      · rw [hpx] at HC
        have HPX := Lib.hid hpx; clear hpx
        go_wp2_with (first | (go_at_call 34; refine HC.out.mono ?_; rintro e w2 ⟨rfl, hb2⟩))
        go_ret
        exact ⟨k, rfl, by rw [any_here (d := (0, 0)) hlt (by rw [HX.out]; exact HPX.out)]; simp, HB.out.trans (hb2.mono HB.out.size)⟩
    · obtain rfl : k = xs.length := by omega
      go_wp2_with fail
      go_ret
      exact ⟨-1, rfl, by rw [hny.fin]; rfl, hb⟩
theorem con_chk2 (q : Nat) (p : Int × Int → Bool) (xs : List (Int × Int)) (a : Option Addr) (cap : Nat) (w : World) (hin : MovesIn w a xs) (hl : xs.length ≤ 1000)
    (hp : ∀ k w', k < xs.length → Below w.heap.size w w' → Calls Try.prog 34 #[.agg #[.int .i64 (xs.getD k (0, 0)).1, .int .i64 (xs.getD k (0, 0)).2], .pointer (some ⟨q, 0, none⟩)] w' fun e w'' => e = .returned (.bool (p (xs.getD k (0, 0)))) ∧ Below w'.heap.size w' w'') :
    Calls Try.prog 33 #[.slice a xs.length cap, .func (.func 34) #[] #[.pointer (some ⟨q, 0, none⟩)]] w fun e w' => e = .returned (.bool (xs.any p)) ∧ Below w.heap.size w w' := by
  have HC := Lib.hid (idx_chk2 q p xs a cap w hin hl hp)
  clear hin hp
  go_enter Try.func33, Try.ntmps33
  go_wp2_with (first | (go_at_call 47; refine HC.out.mono ?_; rintro e w2 ⟨r, rfl, hr, hb2⟩))
  go_wp2_with fail
  go_ret
  exact ⟨rfl, hb2⟩

end Go.Proofs.Ytgpacajlfclobaa
