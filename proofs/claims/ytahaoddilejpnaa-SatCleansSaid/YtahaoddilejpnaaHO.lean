/- Opening arguments [][]int and []bool. -/
import Derived.Test.YtahaoddilejpnaaHB
import Derived.OpenShut
import Derived.Deep.Slices
import Derived.Deep.Matrix
namespace Go.Proofs.Ytahaoddilejpnaa
open Go.RowKit

theorem addr_flat {w : World} {a : Addr} {v : Value} (h : w.cell? a = some v) : a = ⟨a.block, a.off, none⟩ := by
  obtain ⟨b, o, s⟩ := a
  cases s with
  | none => rfl
  | some x =>
    unfold World.cell? at h
    split at h
    · simp at h
    · cases h
theorem ints_of {w : World} {A : Option Addr} {L C : Nat} {Z : List Int} (hL : L ≤ C) (hz : Z.length = C) (hn : A = none → C = 0)
    (h : ∀ a', A = some a' → ∀ c, c < C → w.cell? (a'.add c) = some (.int .i64 (Z.getD c 0))) : IntsIn w A (Z.take L) := fun k hk => by
  have hk : k < L := by rw [List.length_take] at hk; omega
  cases hA : A with
  | none => have := hn hA; omega
  | some a' =>
    have h0 := h a' hA 0 (by omega)
    have hf := addr_flat (show w.cell? a' = some _ from h0)
    have hc := h a' hA k (by omega)
    refine ⟨a'.block, a'.off, by rw [← hf], ?_⟩
    have e : a'.add k = ⟨a'.block, a'.off + k, none⟩ := by
      unfold Addr.add
      split
      · rename_i h0; subst h0; exact hf
      · rfl
    rw [e] at hc
    rw [hc]
    simp [List.getD_eq_getElem?_getD, hk]
theorem rows_of {w : World} {a : Addr} {len cap : Nat} {A : Nat → Option Addr} {L C : Nat → Nat} {Z : Nat → List Int} (hl : len ≤ cap)
    (h : ∀ r, r < cap → w.cell? (a.add r) = some (.slice (A r) (L r) (C r)) ∧ L r ≤ C r ∧ (Z r).length = C r ∧ (A r = none → C r = 0) ∧
      ∀ a', A r = some a' → ∀ c, c < C r → w.cell? (a'.add c) = some (.int .i64 ((Z r).getD c 0))) :
    RowsIn w (some a) ((List.range len).map fun r => (Z r).take (L r)) := fun k hk => by
  have hk : k < len := by simpa using hk
  have h0 := (h 0 (by omega)).1
  have hf := addr_flat (show w.cell? a = some _ from h0)
  obtain ⟨hc, hL, hz, hn, hi⟩ := h k (by omega)
  have e : a.add k = ⟨a.block, a.off + k, none⟩ := by
    unfold Addr.add
    split
    · rename_i h0; subst h0; exact hf
    · rfl
  rw [e] at hc
  have eg : ((List.range len).map fun r => (Z r).take (L r)).getD k [] = (Z k).take (L k) := by
    simp [List.getD_eq_getElem?_getD, hk]
  rw [eg]
  refine ⟨a.block, a.off, A k, C k, by rw [← hf], ?_, ?_, hn, ints_of hL hz hn hi⟩
  · rw [hc, List.length_take, Nat.min_eq_left (by omega)]
  · rw [List.length_take]; omega

theorem rows_cells : Try.prog.cellsOf 40 = 1 := by kernel_rfl
theorem int_cells : Try.prog.cellsOf 3 = 1 := by kernel_rfl
/-- What the reading of an argument [][]int tells. -/
theorem open_rows {H : Type} {enc : TypeId × Value → H} {w : World} {base fuel : Nat} {held : Bool} {v : Value} {x : DataW H × List MemPlace}
    (h : DataW.trod enc Try.prog w base (fun _ => true) held fuel 22 [v] = some x) :
    ∃ a cap g, v = .slice a g.length cap ∧ RowsIn w a g ∧ g.length ≤ maxLen ∧ ∀ k, k < g.length → (g.getD k []).length ≤ maxLen := by
  rcases Deep.open_int_rows Try.underlying22 Try.underlying40 Try.underlying3 rows_cells int_cells h with ⟨hv, _⟩ | ⟨a, len, cap, A, L, C, Z, hv, _, hlc, hcm, _, hall⟩
  · simp only [List.cons.injEq, and_true] at hv
    exact ⟨none, 0, [], hv, fun _ hk => absurd hk (Nat.not_lt_zero _), Nat.zero_le _, fun _ hk => absurd hk (Nat.not_lt_zero _)⟩
  · simp only [List.cons.injEq, and_true] at hv
    refine ⟨some a, cap, (List.range len).map fun r => (Z r).take (L r), by simpa using hv, rows_of (A := A) (C := C) hlc fun r hr => ?_, by simp; omega, fun k hk => ?_⟩
    · obtain ⟨h1, h2, _, h4, _, h6, h7⟩ := hall r hr
      exact ⟨h1, h2, h4, h6, fun a' ha => (h7 a' ha).2⟩
    · have hk : k < len := by simpa using hk
      obtain ⟨_, h2, h3, _⟩ := hall k (by omega)
      have eg : ((List.range len).map fun r => (Z r).take (L r)).getD k [] = (Z k).take (L k) := by
        simp [List.getD_eq_getElem?_getD, hk]
      rw [eg, List.length_take]
      omega
set_option maxRecDepth 100000 in
theorem rows_one {w : World} {base : Nat} {v : Value} (h : Value.okWide Try.prog w .any base 22 v) : v.cells.toList = [v] := by
  unfold Value.okWide at h
  rw [Try.underlying22] at h
  cases v with
  | agg cs => simp [Cell.okWide, Cell.ok, Try.underlying22] at h
  | _ => rfl
theorem bool_cells : Try.prog.cellsOf 4 = 1 := by kernel_rfl
def boolV : Value → Bool
  | .bool b => b
  | _ => false
theorem add_flat {a : Addr} (hf : a = ⟨a.block, a.off, none⟩) (k : Nat) : a.add k = ⟨a.block, a.off + k, none⟩ := by
  unfold Addr.add
  split
  · rename_i h0; subst h0; exact hf
  · rfl
theorem open_bools {H : Type} {enc : TypeId × Value → H} {w : World} {base fuel : Nat} {held : Bool} {v : Value} {x : DataW H × List MemPlace}
    (h : DataW.trod enc Try.prog w base (fun _ => true) held fuel 25 [v] = some x) :
    ∃ a cap l, v = .slice a l.length cap ∧ BoolsIn w a l ∧ l.length ≤ maxLen := by
  rcases Deep.open_slice1 Try.underlying25 bool_cells h with ⟨hv, _⟩ | ⟨a, len, cap, m, n, V, D, Pl, hv, _, hlc, hcm, hm, _, hall⟩
  · simp only [List.cons.injEq, and_true] at hv
    exact ⟨none, 0, [], hv, fun _ hk => absurd hk (Nat.not_lt_zero _), Nat.zero_le _⟩
  · simp only [List.cons.injEq, and_true] at hv
    rw [if_pos rfl] at hm
    have hint : ∀ i, i < cap → ∃ x : Bool, w.cell? (a.add i) = some (.bool x) := fun i hi => by
      obtain ⟨h1, h2⟩ := hall i (by omega)
      obtain ⟨x, hx, _⟩ := DataW.trod_bool Try.underlying4 h2
      simp only [List.cons.injEq, and_true] at hx
      exact ⟨x, by rw [h1, hx]⟩
    refine ⟨some a, cap, (List.range len).map fun i => boolV ((w.cell? (a.add i)).getD (.bool false)), by simpa using hv, fun k hk => ?_, by simp; omega⟩
    have hk : k < len := by simpa using hk
    obtain ⟨x, h1⟩ := hint k (by omega)
    obtain ⟨x0, h10⟩ := hint 0 (by omega)
    have hf : a = ⟨a.block, a.off, none⟩ := by
      have e : a.add 0 = a := by unfold Addr.add; simp
      rw [e] at h10
      exact addr_flat h10
    have eg : ((List.range len).map fun i => boolV ((w.cell? (a.add i)).getD (.bool false))).getD k false = x := by
      simp [List.getD_eq_getElem?_getD, hk, h1, boolV]
    rw [eg]
    rw [add_flat hf] at h1
    exact ⟨a.block, a.off, by rw [← hf], h1⟩
set_option maxRecDepth 100000 in
theorem bools_one {w : World} {base : Nat} {v : Value} (h : Value.okWide Try.prog w .any base 25 v) : v.cells.toList = [v] := by
  unfold Value.okWide at h
  rw [Try.underlying25] at h
  cases v with
  | agg cs => simp [Cell.okWide, Cell.ok, Try.underlying25] at h
  | _ => rfl
end Go.Proofs.Ytahaoddilejpnaa
