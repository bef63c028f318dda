/- The walk of Colors of the program. -/
import Derived.Test.YtgpacajlfclobaaQ8
namespace Go.Proofs.Ytgpacajlfclobaa
open Go.RowKit

def colE (n k : Int) (es : List (Int × Int)) : Int := if decide (1 ≤ k) && decide (k ≤ 8) && edgedB n es then 0 else 1
def colB (n k : Int) (es : List (Int × Int)) : Bool := decide (colE n k es = 0) && canF (toN es) k.toNat n.toNat 0 0 (fun _ => 0)
theorem colE_bad {n k : Int} {es : List (Int × Int)} (h : (decide (1 ≤ k) && decide (k ≤ 8) && edgedB n es) = false) : colE n k es = 1 ∧ colB n k es = false := by
  have e : colE n k es = 1 := by unfold colE; rw [h]; rfl
  exact ⟨e, by unfold colB; rw [e]; rfl⟩
theorem colE_ok {n k : Int} {es : List (Int × Int)} (h1 : 1 ≤ k) (h8 : k ≤ 8) (h : edgedB n es = true) : colE n k es = 0 ∧ colB n k es = canF (toN es) k.toNat n.toNat 0 0 (fun _ => 0) := by
  have e : colE n k es = 0 := by unfold colE; rw [decide_eq_true h1, decide_eq_true h8, h]; rfl
  exact ⟨e, by unfold colB; rw [e]; rfl⟩
/-- The colors that are told. -/
def ColPost (n k : Int) (es : List (Int × Int)) (v : Value) (w' : World) : Prop :=
  if colB n k es then ∃ q N g, v = .slice (some ⟨q, 0, none⟩) N N ∧ n = (N : Int) ∧ NRow w' q N g ∧ GoodF (toN es) k.toNat g N else v = .slice none 0 0

abbrev madeW (w1 : World) (s N : Nat) : World := ((((w1.alloc (.cells (madeCells #[.int .i64 0] N) 3)).alloc (.cells #[.slice (some ⟨w1.heap.size, 0, none⟩) N N] 35)).alloc (.cells #[.func (.func 37) #[] #[.pointer (some ⟨s + 1 + 1, 0, none⟩), .pointer (some ⟨w1.heap.size + 1, 0, none⟩)]] 60)).alloc
  (.cells #[.func (.func 39) #[] #[.pointer (some ⟨s, 0, none⟩), .pointer (some ⟨s + 1, 0, none⟩), .pointer (some ⟨w1.heap.size + 1 + 1, 0, none⟩), .pointer (some ⟨w1.heap.size + 1, 0, none⟩), .pointer (some ⟨w1.heap.size + 1 + 1 + 1, 0, none⟩)]] 60))
theorem madeW_below (w1 : World) (s N : Nat) : Below w1.heap.size w1 (madeW w1 s N) :=
  ((((Below.refl _ _).alloc (Nat.le_refl _) _).alloc (by simp) _).alloc (by simp; omega) _).alloc (by simp; omega) _
theorem madeW_row (w1 : World) (s N : Nat) : NRow (madeW w1 s N) w1.heap.size N (fun _ => 0) := by
  refine NRow.below (w := w1.alloc (.cells (madeCells #[.int .i64 0] N) 3)) ?_ ((((Below.refl _ _).alloc (Nat.le_refl _) _).alloc (by simp only [World.size_alloc]; omega) _).alloc (by simp only [World.size_alloc]; omega) _)
  unfold NRow
  rw [intArr_made]
  exact heap_at _ _ _ rfl
theorem madeW_env {w1 : World} {s N K : Nat} {es : List (Int × Int)} {a : Option Addr} {cap : Nat} (c1 : w1.cell? ⟨s, 0, none⟩ = some (.int .i64 (N : Int))) (c2 : w1.cell? ⟨s + 1, 0, none⟩ = some (.int .i64 (K : Int))) (c3 : w1.cell? ⟨s + 1 + 1, 0, none⟩ = some (.slice a es.length cap)) (hin : MovesIn w1 a es) :
    Env (madeW w1 s N) s (s + 1) (w1.heap.size + 1 + 1) (w1.heap.size + 1) (w1.heap.size + 1 + 1 + 1) (s + 1 + 1) w1.heap.size N K es a cap := by
  have hb := madeW_below w1 s N
  have l1 : s < w1.heap.size := block_lt_of_cell c1
  have l2 : s + 1 < w1.heap.size := block_lt_of_cell c2
  have l3 : s + 1 + 1 < w1.heap.size := block_lt_of_cell c3
  refine ⟨keep c1 hb, keep c2 hb, ?_, ?_, ?_, keep c3 hb, hin.below hb, ⟨⟨by omega, by omega, by omega⟩, by omega, by omega, by omega⟩, fun k hk b off e => ?_⟩
  · exact keep (w := ((w1.alloc (.cells (madeCells #[.int .i64 0] N) 3)).alloc (.cells #[.slice (some ⟨w1.heap.size, 0, none⟩) N N] 35)).alloc (.cells #[.func (.func 37) #[] #[.pointer (some ⟨s + 1 + 1, 0, none⟩), .pointer (some ⟨w1.heap.size + 1, 0, none⟩)]] 60)) (by simp [go_sem]) ((Below.refl _ _).alloc (Nat.le_refl _) _)
  · exact keep (w := (w1.alloc (.cells (madeCells #[.int .i64 0] N) 3)).alloc (.cells #[.slice (some ⟨w1.heap.size, 0, none⟩) N N] 35)) (by simp [go_sem]) (((Below.refl _ _).alloc (Nat.le_refl _) _).alloc (by simp) _)
  · simp [go_sem]
  · obtain ⟨b', off', e', h1, _⟩ := hin k hk
    rw [e] at e'
    simp only [Option.some.injEq, Addr.mk.injEq, and_true] at e'
    have h3 : b' < w1.heap.size := block_lt_of_cell h1
    omega

set_option maxRecDepth 100000 in
set_option maxHeartbeats 1000000 in
theorem colors_any (n k : Int) (es : List (Int × Int)) (a : Option Addr) (cap : Nat) (w : World) (hin : MovesIn w a es) (hl : es.length ≤ 1000) :
    Calls Try.prog 18 #[.int .i64 n, .int .i64 k, .slice a es.length cap] w fun e w' => (∃ v, e = .returned (.tuple #[v, .bool (colB n k es), .int .i64 (colE n k es)]) ∧ ColPost n k es v w') ∧ Below w.heap.size w w' := by
  by_cases h1 : 1 ≤ k
  rotate_left
  · obtain ⟨e1, e2⟩ := colE_bad (n := n) (k := k) (es := es) (by rw [decide_eq_false h1]; rfl)
    have HP : Hid (∀ w', ColPost n k es (.slice none 0 0) w') := Lib.hid fun w' => by unfold ColPost; rw [e2]; rfl
    have h1' : k < 1 := by omega
    rw [e1, e2]
    clear e1 e2 hin h1
    go_enter Try.func18, Try.ntmps18
    go_wp2_with fail
    go_ret3
    exact ⟨⟨_, rfl, HP.out _⟩, (((Below.refl _ _).alloc (Nat.le_refl _) _).alloc (by simp) _).alloc (by simp; omega) _⟩
  have h1' : ¬ k < 1 := by omega
  by_cases h8 : k ≤ 8
  rotate_left
  · obtain ⟨e1, e2⟩ := colE_bad (n := n) (k := k) (es := es) (by rw [decide_eq_false h8, Bool.and_false]; rfl)
    have HP : Hid (∀ w', ColPost n k es (.slice none 0 0) w') := Lib.hid fun w' => by unfold ColPost; rw [e2]; rfl
    have h8' : 8 < k := by omega
    rw [e1, e2]
    clear e1 e2 hin h1 h8
    go_enter Try.func18, Try.ntmps18
    go_wp2_with fail
    go_ret3
    exact ⟨⟨_, rfl, HP.out _⟩, (((Below.refl _ _).alloc (Nat.le_refl _) _).alloc (by simp) _).alloc (by simp; omega) _⟩
  have h8' : ¬ 8 < k := by omega
  have hb0 : Below w.heap.size w (((w.alloc (.cells #[.int .i64 n] 3)).alloc (.cells #[.int .i64 k] 3)).alloc (.cells #[.slice a es.length cap] 34)) := (((Below.refl _ _).alloc (Nat.le_refl _) _).alloc (by simp) _).alloc (by simp; omega) _
  have HE := Lib.hid (edged_any n es a cap _ (hin.below hb0) hl)
  have hsz0 := hb0.size
  have HB0 := Lib.hid hb0
  clear hb0
  cases he : edgedB n es
  · obtain ⟨e1, e2⟩ := colE_bad (n := n) (k := k) (es := es) (by rw [he, Bool.and_false])
    have HP : Hid (∀ w', ColPost n k es (.slice none 0 0) w') := Lib.hid fun w' => by unfold ColPost; rw [e2]; rfl
    rw [e1, e2]
    rw [he] at HE
    clear e1 e2 hin h1 h8 he
    go_enter Try.func18, Try.ntmps18
    go_wp2_with fail
    refine HE.out.mono ?_; rintro e w1 ⟨rfl, hb1⟩
    go_wp2_with fail
    go_ret3
    exact ⟨⟨_, rfl, HP.out _⟩, HB0.out.trans (hb1.mono hsz0)⟩
  · rw [he] at HE
    obtain ⟨e1, e2⟩ := colE_ok h1 h8 he
    obtain ⟨hn0, hn12, _⟩ := edged_ok he
    obtain ⟨N, rfl⟩ := Int.eq_ofNat_of_zero_le hn0
    obtain ⟨K, rfl⟩ := Int.eq_ofNat_of_zero_le (show (0 : Int) ≤ k by omega)
    have hmk : ∀ w0 : World, (Instr.makeSlice 35 (.int .i64 (N : Int)) (.int .i64 (N : Int))).run Try.prog w0 = .ok (.slice (some ⟨w0.heap.size, 0, none⟩) N N) (w0.alloc (.cells (madeCells #[.int .i64 0] N) 3)) := fun w0 => run_make_row' (P := Try.prog) 35 3 (.int .i64 0) 8 Try.underlying35 Try.infoInt rfl .i64 .i64 N (by omega) (by omega) w0
    have q1 : (((w.alloc (.cells #[.int .i64 (N : Int)] 3)).alloc (.cells #[.int .i64 (K : Int)] 3)).alloc (.cells #[.slice a es.length cap] 34)).cell? ⟨w.heap.size, 0, none⟩ = some (.int .i64 (N : Int)) :=
      keep (w := w.alloc (.cells #[.int .i64 (N : Int)] 3)) (by simp [go_sem]) (((Below.refl _ _).alloc (Nat.le_refl _) _).alloc (by simp) _)
    have q2 : (((w.alloc (.cells #[.int .i64 (N : Int)] 3)).alloc (.cells #[.int .i64 (K : Int)] 3)).alloc (.cells #[.slice a es.length cap] 34)).cell? ⟨w.heap.size + 1, 0, none⟩ = some (.int .i64 (K : Int)) :=
      keep (w := (w.alloc (.cells #[.int .i64 (N : Int)] 3)).alloc (.cells #[.int .i64 (K : Int)] 3)) (by simp [go_sem]) ((Below.refl _ _).alloc (Nat.le_refl _) _)
    have q3 : (((w.alloc (.cells #[.int .i64 (N : Int)] 3)).alloc (.cells #[.int .i64 (K : Int)] 3)).alloc (.cells #[.slice a es.length cap] 34)).cell? ⟨w.heap.size + 1 + 1, 0, none⟩ = some (.slice a es.length cap) := by simp [go_sem]
    have Q1 := Lib.hid q1; have Q2 := Lib.hid q2; have Q3 := Lib.hid q3
    have HIn := Lib.hid hin
    have HP0 : Hid (canF (toN es) K N 0 0 (fun _ => 0) = false → ∀ w', ColPost (N : Int) (K : Int) es (.slice none 0 0) w') := Lib.hid fun h w' => by
      unfold ColPost
      rw [e2, Int.toNat_natCast, Int.toNat_natCast, h]; rfl
    have HP1 : Hid (canF (toN es) K N 0 0 (fun _ => 0) = true → ∀ w' q g, NRow w' q N g → GoodF (toN es) K g N → ColPost (N : Int) (K : Int) es (.slice (some ⟨q, 0, none⟩) N N) w') := Lib.hid fun h w' q g h3 h4 => by
      unfold ColPost
      rw [e2, Int.toNat_natCast, Int.toNat_natCast, h]
      exact ⟨q, N, g, rfl, rfl, h3, h4⟩
    have HTry : Hid (∀ w1 : World, Below w.heap.size w w1 → w1.cell? ⟨w.heap.size, 0, none⟩ = some (.int .i64 (N : Int)) → w1.cell? ⟨w.heap.size + 1, 0, none⟩ = some (.int .i64 (K : Int)) → w1.cell? ⟨w.heap.size + 1 + 1, 0, none⟩ = some (.slice a es.length cap) →
        Calls Try.prog 39 #[.int .i64 0, .int .i64 0, .pointer (some ⟨w.heap.size, 0, none⟩), .pointer (some ⟨w.heap.size + 1, 0, none⟩), .pointer (some ⟨w1.heap.size + 1 + 1, 0, none⟩), .pointer (some ⟨w1.heap.size + 1, 0, none⟩), .pointer (some ⟨w1.heap.size + 1 + 1 + 1, 0, none⟩)] (madeW w1 w.heap.size N) fun e w' => e = .returned (.bool (canF (toN es) K N 0 0 (fun _ => 0))) ∧
          (TryPost (toN es) K N w1.heap.size 0 (fun _ => 0) (canF (toN es) K N 0 0 (fun _ => 0)) w' ∧ w'.cell? ⟨w1.heap.size + 1, 0, none⟩ = some (.slice (some ⟨w1.heap.size, 0, none⟩) N N)) ∧ Below w.heap.size w w') := Lib.hid fun w1 hb c1 c2 c3 => by
      have hE := madeW_env (s := w.heap.size) (K := K) c1 c2 c3 (hin.below hb)
      have := try_any w.heap.size (w.heap.size + 1) (w1.heap.size + 1 + 1) (w1.heap.size + 1) (w1.heap.size + 1 + 1 + 1) (w.heap.size + 1 + 1) w1.heap.size N K es a cap hl he (by omega) N 0 0 (fun _ => 0) (madeW w1 w.heap.size N) (by omega) (by omega) hE (madeW_row w1 w.heap.size N) GoodF.zero
      refine this.mono fun e w' ⟨h3, h4, h5⟩ => ⟨h3, ⟨h4, (hE.save h5).co⟩, ?_⟩
      have hb2 := hb.trans ((madeW_below w1 w.heap.size N).mono hb.size)
      exact hb2.trans (h5.below hb.size hb2.size)
    rw [e1, e2, Int.toNat_natCast, Int.toNat_natCast]
    clear q1 q2 q3 hin hn0 e1 e2 he
    generalize canF (toN es) K N 0 0 (fun _ => 0) = R at *
    go_enter Try.func18, Try.ntmps18
    go_wp2_with fail
    refine HE.out.mono ?_; rintro e w1 ⟨rfl, hb1⟩
    have c1 := keep Q1.out hb1; have c2 := keep Q2.out hb1; have c3 := keep Q3.out hb1
    have HB1 := Lib.hid hb1; clear hb1
    have HB2 : Hid (Below w.heap.size w w1) := Lib.hid (HB0.out.trans (HB1.out.mono hsz0))
    have HT := Lib.hid (HTry.out w1 HB2.out c1 c2 c3)
    cases R
    · go_wp2_with fail
      refine HT.out.mono ?_; rintro e w6 ⟨rfl, ⟨_, c6⟩, hb6⟩
      go_wp2_with fail
      go_ret3
      exact ⟨⟨_, rfl, HP0.out (by trivial) _⟩, hb6⟩
    · go_wp2_with fail
      refine HT.out.mono ?_; rintro e w6 ⟨rfl, ⟨⟨g, hrow, hgood, _⟩, c6⟩, hb6⟩
      have HRow := Lib.hid hrow; have HGood := Lib.hid (hgood rfl)
      clear hrow hgood
      go_wp2_with fail
      go_ret3
      exact ⟨⟨_, rfl, HP1.out (by trivial) _ _ _ HRow.out HGood.out⟩, hb6⟩
end Go.Proofs.Ytgpacajlfclobaa
