/- The walk of Colors of the document; what colors that are told owe. -/
import Derived.Test.YtgpacajlfclobaaQ9
import Derived.Test.YtgpacajlfclobaaQA
import Derived.Test.YtgpacajlfclobaaQ3
namespace Go.Proofs.Ytgpacajlfclobaa
open Go.RowKit

set_option maxRecDepth 100000 in
set_option maxHeartbeats 1000000 in
theorem rColors_any (n k : Int) (es : List (Int × Int)) (a : Option Addr) (cap : Nat) (w : World) (hin : MovesIn w a es) (hl : es.length ≤ 1000) :
    Calls Try.prog 19 #[.int .i64 n, .int .i64 k, .slice a es.length cap] w fun e w' => e = .returned (.tuple #[.bool (colB n k es), .int .i64 (colE n k es)]) ∧ Below w.heap.size w w' := by
  by_cases h0 : 0 ≤ n
  rotate_left
  · obtain ⟨e1, e2⟩ := colE_bad (n := n) (k := k) (es := es) (by unfold edgedB; rw [decide_eq_false h0]; simp)
    have h0' : n < 0 := by omega
    rw [e1, e2]
    clear e1 e2 hin h0
    go_enter Try.func19, Try.ntmps19
    go_wp2_with fail
    go_ret2
    exact ⟨rfl, Below.refl _ _⟩
  have h0' : ¬ n < 0 := by omega
  by_cases h12 : n ≤ 12
  rotate_left
  · obtain ⟨e1, e2⟩ := colE_bad (n := n) (k := k) (es := es) (by unfold edgedB; rw [decide_eq_false h12]; simp)
    have h12' : 12 < n := by omega
    rw [e1, e2]
    clear e1 e2 hin h12 h0
    go_enter Try.func19, Try.ntmps19
    go_wp2_with fail
    go_ret2
    exact ⟨rfl, Below.refl _ _⟩
  have h12' : ¬ 12 < n := by omega
  by_cases h1 : 1 ≤ k
  rotate_left
  · obtain ⟨e1, e2⟩ := colE_bad (n := n) (k := k) (es := es) (by rw [decide_eq_false h1]; rfl)
    have h1' : k < 1 := by omega
    rw [e1, e2]
    clear e1 e2 hin h1
    go_enter Try.func19, Try.ntmps19
    go_wp2_with fail
    go_ret2
    exact ⟨rfl, Below.refl _ _⟩
  have h1' : ¬ k < 1 := by omega
  by_cases h8 : k ≤ 8
  rotate_left
  · obtain ⟨e1, e2⟩ := colE_bad (n := n) (k := k) (es := es) (by rw [decide_eq_false h8, Bool.and_false]; rfl)
    have h8' : 8 < k := by omega
    rw [e1, e2]
    clear e1 e2 hin h8
    go_enter Try.func19, Try.ntmps19
    go_wp2_with fail
    go_ret2
    exact ⟨rfl, Below.refl _ _⟩
  have h8' : ¬ 8 < k := by omega
  have HE := Lib.hid (edges_any n es a cap w hin hl)
  have hed : edgedB n es = !(es.any (eBad n)) := by unfold edgedB; rw [decide_eq_true h0, decide_eq_true h12]; rfl
  rw [← hed] at HE
  cases he : edgedB n es
  · obtain ⟨e1, e2⟩ := colE_bad (n := n) (k := k) (es := es) (by rw [he, Bool.and_false])
    rw [e1, e2]
    rw [he] at HE
    clear e1 e2 hin he hed h0 h12 h1 h8
    go_enter Try.func19, Try.ntmps19
    go_wp2_with fail
    refine HE.out.mono ?_; rintro e w1 ⟨rfl, hb1⟩
    go_wp2_with fail
    go_ret2
    exact ⟨rfl, hb1⟩
  · rw [he] at HE
    obtain ⟨e1, e2⟩ := colE_ok h1 h8 he
    obtain ⟨N, rfl⟩ := Int.eq_ofNat_of_zero_le h0
    obtain ⟨K, rfl⟩ := Int.eq_ofNat_of_zero_le (show (0 : Int) ≤ k by omega)
    have hmk : ∀ w0 : World, (Instr.makeSlice 35 (.int .i64 (N : Int)) (.int .i64 (N : Int))).run Try.prog w0 = .ok (.slice (some ⟨w0.heap.size, 0, none⟩) N N) (w0.alloc (.cells (madeCells #[.int .i64 0] N) 3)) := fun w0 => run_make_row' (P := Try.prog) 35 3 (.int .i64 0) 8 Try.underlying35 Try.infoInt rfl .i64 .i64 N (by omega) (by omega) w0
    have HC : Hid (∀ w1 : World, Below w.heap.size w w1 →
        Calls Try.prog 40 #[.int .i64 (N : Nat), .int .i64 (K : Nat), .int .i64 0, .slice a es.length cap, .slice (some ⟨w1.heap.size, 0, none⟩) N N] (w1.alloc (.cells (madeCells #[.int .i64 0] N) 3)) fun e w' => e = .returned (.bool (canF (toN es) K N 0 0 (fun _ => 0))) ∧ Below w.heap.size w w') := Lib.hid fun w1 hb => by
      have hb2 : Below w.heap.size w (w1.alloc (.cells (madeCells #[.int .i64 0] N) 3)) := hb.alloc hb.size _
      have hrow : NRow (w1.alloc (.cells (madeCells #[.int .i64 0] N) 3)) w1.heap.size N (fun _ => 0) := by
        unfold NRow
        rw [intArr_made]
        exact heap_at _ _ _ rfl
      have := color_any w1.heap.size N K es a cap hl he (by omega) (fun j hj b off e => by
        obtain ⟨b', off', e', h1, _⟩ := hin.below hb j hj
        rw [e] at e'
        simp only [Option.some.injEq, Addr.mk.injEq, and_true] at e'
        have h3 : b' < w1.heap.size := block_lt_of_cell h1
        omega) N 0 (fun _ => 0) _ (by omega) (fun j hj => absurd hj (Nat.not_lt_zero _)) (hin.below hb2) hrow
      exact this.mono fun e w' ⟨h3, _, h5⟩ => ⟨h3, hb2.trans (h5.below hb.size hb2.size)⟩
    rw [e1, e2, Int.toNat_natCast, Int.toNat_natCast]
    clear hin h0 h12 h1 h8 e1 e2 he hed
    generalize canF (toN es) K N 0 0 (fun _ => 0) = R at *
    go_enter Try.func19, Try.ntmps19
    go_wp2_with fail
    refine HE.out.mono ?_; rintro e w1 ⟨rfl, hb1⟩
    have HT := Lib.hid (HC.out w1 hb1)
    clear hb1
    go_wp2_with fail
    refine HT.out.mono ?_; rintro e w6 ⟨rfl, hb6⟩
    go_wp2_with fail
    go_ret2
    exact ⟨rfl, hb6⟩

/-- The colors as numbers. -/
def colL (N : Nat) (g : Regs) : List Int := (List.range N).map fun j => (g j : Int)
theorem colL_len (N : Nat) (g : Regs) : (colL N g).length = N := by simp [colL]
theorem colL_at {N : Nat} {g : Regs} {j : Nat} (h : j < N) : (colL N g).getD j 0 = (g j : Int) := by
  simp [colL, List.getD_eq_getElem?_getD, h]
theorem NRow.ints {w : World} {q N : Nat} {g : Regs} (h : NRow w q N g) : IntsIn w (some ⟨q, 0, none⟩) (colL N g) := fun k hk => by
  rw [colL_len] at hk
  exact ⟨q, 0, rfl, by rw [Nat.zero_add, colL_at hk]; exact h.cell hk⟩
theorem checkE_good {n k : Int} {es : List (Int × Int)} {N : Nat} {g : Regs} (h : colB n k es = true) (hn : n = (N : Int)) (hg : GoodF (toN es) k.toNat g N) : checkE n es (colL N g) = 0 := by
  have h0 : colE n k es = 0 := by
    unfold colB at h
    rw [Bool.and_eq_true, decide_eq_true_iff] at h
    exact h.1
  have hh : (decide (1 ≤ k) && decide (k ≤ 8) && edgedB n es) = true := by
    unfold colE at h0
    split at h0
    · assumption
    · omega
  rw [Bool.and_eq_true, Bool.and_eq_true, decide_eq_true_iff, decide_eq_true_iff] at hh
  obtain ⟨⟨hk1, hk8⟩, he⟩ := hh
  obtain ⟨hn0, hn12, hok⟩ := edged_ok he
  unfold checkE
  rw [he, decide_eq_true (by rw [colL_len, hn]), if_pos, if_neg]
  · rw [Bool.not_eq_true, List.any_eq_false]
    intro e hem
    obtain ⟨h1, h2, h3⟩ := hok e hem
    have hE : (e.1.toNat, e.2.toNat) ∈ toN es := List.mem_map.2 ⟨e, hem, rfl⟩
    have := hg.no _ hE (by show e.1.toNat < N; omega) (by show e.2.toNat < N; omega)
    unfold clashB
    rw [colL_at (by omega), colL_at (by omega)]
    simp only [beq_iff_eq]
    exact fun h => this (by exact_mod_cast h)
  · rw [Bool.true_and, Bool.true_and, Bool.not_eq_true', List.any_eq_false]
    intro c hc
    obtain ⟨j, hj, rfl⟩ := List.mem_map.1 hc
    have := hg.lt j (by simpa using hj)
    unfold cBad
    simp
    omega
theorem colors_range {n k : Int} {es : List (Int × Int)} {N : Nat} {g : Regs} (h : colB n k es = true) (hg : GoodF (toN es) k.toNat g N) : ∀ j, j < N → (g j : Int) < k := fun j hj => by
  have := hg.lt j hj
  have h0 : colE n k es = 0 := by
    unfold colB at h
    rw [Bool.and_eq_true, decide_eq_true_iff] at h
    exact h.1
  have hh : (decide (1 ≤ k) && decide (k ≤ 8) && edgedB n es) = true := by
    unfold colE at h0
    split at h0
    · assumption
    · omega
  rw [Bool.and_eq_true, Bool.and_eq_true, decide_eq_true_iff, decide_eq_true_iff] at hh
  omega
end Go.Proofs.Ytgpacajlfclobaa
