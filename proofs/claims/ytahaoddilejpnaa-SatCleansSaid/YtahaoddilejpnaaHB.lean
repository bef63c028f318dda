/- Clauses in memory; Long, isLiteral and Validate of both sides. -/
import Derived.Test.YtahaoddilejpnaaHP
import Derived.StillTailTactics
import Derived.Deep.OwnRows
import Derived.IntWalk
import Derived.Deep.RegionHeld3
namespace Go.Proofs.Ytahaoddilejpnaa
open Go.RowKit

/-- The cells of a slice are slices of these numbers. -/
def RowsIn (w : World) (a : Option Addr) (g : List (List Int)) : Prop :=
  ∀ k, k < g.length → ∃ b off a' cap, a = some ⟨b, off, none⟩ ∧ w.cell? ⟨b, off + k, none⟩ = some (.slice a' (g.getD k []).length cap) ∧ (g.getD k []).length ≤ cap ∧ (a' = none → cap = 0) ∧ IntsIn w a' (g.getD k [])
theorem RowsIn.below {w w' : World} {a : Option Addr} {g : List (List Int)} (h : RowsIn w a g) (hb : Below w.heap.size w w') : RowsIn w' a g := fun k hk => by
  obtain ⟨b, off, a', cap, rfl, hc, h1, h2, hi⟩ := h k hk
  exact ⟨b, off, a', cap, rfl, keep hc hb, h1, h2, hi.below hb⟩
theorem RowsIn.nil (w : World) (a : Option Addr) : RowsIn w a [] := fun _ hk => absurd hk (Nat.not_lt_zero _)
/-- The cells of a slice are these truth values. -/
def BoolsIn (w : World) (a : Option Addr) (m : List Bool) : Prop :=
  ∀ k, k < m.length → ∃ b off, a = some ⟨b, off, none⟩ ∧ w.cell? ⟨b, off + k, none⟩ = some (.bool (m.getD k false))
theorem BoolsIn.below {w w' : World} {a : Option Addr} {m : List Bool} (h : BoolsIn w a m) (hb : Below w.heap.size w w') : BoolsIn w' a m := fun k hk => by
  obtain ⟨b, off, rfl, hc⟩ := h k hk
  exact ⟨b, off, rfl, keep hc hb⟩

theorem rLit_any (n l : Int) (w : World) (hn : 0 ≤ n ∧ n ≤ 4000) : Calls Try.prog 35 #[.int .i64 n, .int .i64 l] w fun e w' => e = .returned (.bool (litB n l)) ∧ w = w' := by
  have e : litB n l = decide (1 ≤ l ∧ l ≤ n ∨ l ≤ -1 ∧ -n ≤ l) := rfl
  rw [e]; clear e
  go_enter Try.func35, Try.ntmps35
  by_cases h1 : 1 ≤ l
  · by_cases h2 : l ≤ n
    · rw [decide_eq_true (by omega)]
      go_wp2_with fail
      go_ret
      exact ⟨rfl, rfl⟩
    · have h3 : ¬ l ≤ -1 := by omega
      rw [decide_eq_false (by omega)]
      go_wp2_with fail
      go_ret
      exact ⟨rfl, rfl⟩
  · by_cases h3 : l ≤ -1
    · by_cases h4 : -n ≤ l
      · rw [decide_eq_true (by omega)]
        go_wp2_with fail
        go_ret
        exact ⟨rfl, rfl⟩
      · rw [decide_eq_false (by omega)]
        go_wp2_with fail
        go_ret
        exact ⟨rfl, rfl⟩
    · rw [decide_eq_false (by omega)]
      go_wp2_with fail
      go_ret
      exact ⟨rfl, rfl⟩
theorem sLit_any (n l : Int) (w : World) (hn : 0 ≤ n ∧ n ≤ 4000) : Calls Try.prog 42 #[.int .i64 n, .int .i64 l] w fun e w' => e = .returned (.bool (litB n l)) ∧ w = w' := by
  have e : litB n l = decide (1 ≤ l ∧ l ≤ n ∨ l ≤ -1 ∧ -n ≤ l) := rfl
  rw [e]; clear e
  go_enter Try.func42, Try.ntmps42
  by_cases h0 : l = 0
  · subst h0
    rw [decide_eq_false (by omega)]
    go_wp2_with fail
    go_ret
    exact ⟨rfl, rfl⟩
  · have h0' : (l != 0) = true := by simpa using h0
    by_cases h4 : -n ≤ l
    · by_cases h2 : l ≤ n
      · rw [decide_eq_true (by omega)]
        go_wp2_with fail
        go_ret
        exact ⟨rfl, rfl⟩
      · rw [decide_eq_false (by omega)]
        go_wp2_with fail
        go_ret
        exact ⟨rfl, rfl⟩
    · rw [decide_eq_false (by omega)]
      go_wp2_with fail
      go_ret
      exact ⟨rfl, rfl⟩
theorem long_any (n : Int) (g : List (List Int)) (a : Option Addr) (cap : Nat) (w : World) (hin : RowsIn w a g) (hg : g.length ≤ 9223372036854775807) (hr : ∀ k, k < g.length → (g.getD k []).length ≤ 9223372036854775807) :
    Calls Try.prog 10 #[.int .i64 n, .slice a g.length cap] w fun e w' => e = .returned (.bool (longB n g)) ∧ w = w' := by
  have HI := Lib.hid hin; have HR := Lib.hid hr; clear hin hr
  go_enter Try.func10, Try.ntmps10
  go_wp2_with fail
  go_loopw [5] (fun i wr => ∃ k : Nat, k ≤ g.length ∧ i = .int .i64 k ∧ w = wr ∧ ∀ j, j < k → decide (30 < (g.getD j []).length) = false) (fun i _ => g.length - (intOf i).toNat)
  case atStart => exact ⟨0, Nat.zero_le _, rfl, rfl, fun j hj => absurd hj (Nat.not_lt_zero _)⟩
  case round =>
    obtain ⟨k, hk, rfl, rfl, hny⟩ := hrel
    have HN := Lib.hid hny; clear hny
    by_cases hlt : k < g.length
    · obtain ⟨b, off, a', cap', rfl, hc, _, _, _⟩ := HI.out k hlt
      have hr := HR.out k hlt
      by_cases h30 : 30 < (g.getD k []).length
      · have HT : longB n g = true := by
          unfold longB
          rw [any_at [] hlt (p := fun k => decide (30 < k.length)) (decide_eq_true h30)]; rfl
        have hi : (30 : Int) < ((g.getD k []).length : Int) := by omega
        have HT2 := Lib.hid HT; clear HT h30
        generalize (g.getD k []).length = m at *
        go_wp2_with fail
        go_ret
        exact ⟨ret_bool HT2.out.symm, rfl⟩
      · have hi : ¬ (30 : Int) < ((g.getD k []).length : Int) := by omega
        have HX := Lib.hid h30; clear h30
        generalize hm : (g.getD k []).length = m at *
        have HM := Lib.hid hm; clear hm
        go_wp2_with fail
        go_roundw
        case rel => exact ⟨k + 1, by omega, by go_num, by trivial, fun j hj => by
          by_cases e : j = k
          · rw [e, HM.out]; exact decide_eq_false HX.out
          · exact HN.out j (by omega)⟩
        case measure => simp [intOf]; omega
    · have e : longB n g = (decide (120 < g.length) || decide (40 < n ∧ n ≤ 4000)) := by
        unfold longB
        rw [any_none [] hlt (p := fun k => decide (30 < k.length)) HN.out]; rfl
      have hk2 : k = g.length := by omega
      generalize g.length = m at *
      by_cases h1 : 120 < m
      · have hi : (120 : Int) < (m : Int) := by omega
        rw [decide_eq_true h1] at e
        have HE := Lib.hid e; clear e
        go_wp2_with fail
        go_ret
        exact ⟨ret_bool (by rw [HE.out]; rfl), rfl⟩
      · have hi : ¬ (120 : Int) < (m : Int) := by omega
        rw [decide_eq_false h1] at e
        by_cases h2 : 40 < n
        · by_cases h3 : n ≤ 4000
          · rw [decide_eq_true ⟨h2, h3⟩] at e
            have HE := Lib.hid e; clear e
            go_wp2_with fail
            go_ret
            exact ⟨ret_bool (by rw [HE.out]; rfl), rfl⟩
          · rw [decide_eq_false (fun h => h3 h.2)] at e
            have HE := Lib.hid e; clear e
            go_wp2_with fail
            go_ret
            exact ⟨ret_bool (by rw [HE.out]; rfl), rfl⟩
        · rw [decide_eq_false (fun h => h2 h.1)] at e
          have HE := Lib.hid e; clear e
          go_wp2_with fail
          go_ret
          exact ⟨ret_bool (by rw [HE.out]; rfl), rfl⟩
end Go.Proofs.Ytahaoddilejpnaa
