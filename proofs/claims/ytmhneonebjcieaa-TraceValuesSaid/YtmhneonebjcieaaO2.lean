/- Opening arguments []byte and numbers. -/
import Derived.Test.YtmhneonebjcieaaO
namespace Go.Proofs.Ytmhneonebjcieaa
open Go.RowKit

theorem wf_byte {n : Int} (h : (Lit.int .u8 n).wf = true) : 0 ≤ n ∧ n < 256 := by
  simp [Lit.wf, IntKind.min, IntKind.max, IntKind.bits, IntKind.signed] at h
  omega
set_option maxRecDepth 100000 in
theorem open_bytes {H : Type} {enc : TypeId × Value → H} {w : World} {base fuel : Nat} {held : Bool} {v : Value} {x : DataW H × List MemPlace}
    (h : DataW.trod enc Try.prog w base (fun _ => true) held fuel 25 [v] = some x) :
    ∃ a cap l, v = .slice a l.length cap ∧ BytesIn w a l ∧ l.length ≤ cap ∧ l.length ≤ maxLen ∧ (∀ x ∈ l, x < 256) := by
  rcases Deep.open_slice1 Try.underlying25 byte_cells h with ⟨hv, _⟩ | ⟨a, len, cap, m, n, V, D, Pl, hv, _, hlc, hcm, hm, _, hall⟩
  · simp only [List.cons.injEq, and_true] at hv
    exact ⟨none, 0, [], hv, fun _ hk => absurd hk (Nat.not_lt_zero _), Nat.zero_le _, Nat.zero_le _, fun _ hx => by cases hx⟩
  · simp only [List.cons.injEq, and_true] at hv
    rw [if_pos rfl] at hm
    have hint : ∀ i, i < cap → ∃ x : Nat, x < 256 ∧ w.cell? (a.add i) = some (.int .u8 (x : Nat)) := fun i hi => by
      obtain ⟨h1, h2⟩ := hall i (by omega)
      obtain ⟨x, hx, _, hw⟩ := DataW.trod_int Try.underlying5 h2
      simp only [List.cons.injEq, and_true] at hx
      have := wf_byte hw
      exact ⟨x.toNat, by omega, by rw [h1, hx, Int.toNat_of_nonneg this.1]⟩
    have hl : ∀ i, i < cap → ∃ x : Nat, x < 256 ∧ w.cell? (a.add i) = some (.int .u8 (x : Nat)) ∧ (intV ((w.cell? (a.add i)).getD (.int .i64 0))).toNat = x := fun i hi => by
      obtain ⟨x, hx, hc⟩ := hint i hi
      exact ⟨x, hx, hc, by rw [hc]; simp [intV]⟩
    refine ⟨some a, cap, (List.range len).map fun i => (intV ((w.cell? (a.add i)).getD (.int .i64 0))).toNat, by simpa using hv, fun k hk => ?_, by simpa using hlc, by simp; omega, fun x hx => ?_⟩
    · have hk : k < len := by simpa using hk
      obtain ⟨x, _, h1, h2⟩ := hl k (by omega)
      obtain ⟨x0, _, h10, _⟩ := hl 0 (by omega)
      have hf : a = ⟨a.block, a.off, none⟩ := by
        have e : a.add 0 = a := by unfold Addr.add; simp
        rw [e] at h10
        exact addr_flat h10
      have eg : ((List.range len).map fun i => (intV ((w.cell? (a.add i)).getD (.int .i64 0))).toNat).getD k 0 = x := by
        simp only [List.getD_eq_getElem?_getD, List.getElem?_map, List.getElem?_range hk, Option.map_some, Option.getD_some]
        exact h2
      rw [eg]
      rw [add_flat hf] at h1
      exact ⟨a.block, a.off, by rw [← hf], h1⟩
    · obtain ⟨i, hi, rfl⟩ := List.mem_map.1 hx
      obtain ⟨x, hx, _, h2⟩ := hl i (by have := List.mem_range.1 hi; omega)
      rw [h2]; exact hx
theorem bytes_block {w : World} {a : Option Addr} {l : List Nat} (h : BytesIn w a l) : l ≠ [] → ∀ q off, a = some ⟨q, off, none⟩ → q < w.heap.size := fun hne q off e => by
  obtain ⟨b, o, e2, hc⟩ := h 0 (List.length_pos_iff.2 hne)
  rw [e] at e2
  simp only [Option.some.injEq, Addr.mk.injEq, and_true] at e2
  obtain ⟨rfl, rfl⟩ := e2
  exact block_lt_of_cell hc
set_option maxRecDepth 100000 in
theorem bytes_one {w : World} {base : Nat} {v : Value} (h : Value.okWide Try.prog w .any base 25 v) : v.cells.toList = [v] := by
  unfold Value.okWide at h
  rw [Try.underlying25] at h
  cases v with
  | agg cs => simp [Cell.okWide, Cell.ok, Try.underlying25] at h
  | _ => rfl
set_option maxRecDepth 100000 in
theorem flat_of {w : World} {base : Nat} {a : Option Addr} {n cap : Nat} (h : Value.okWide Try.prog w .any base 22 (.slice a n cap)) : ∀ x, a = some x → x = ⟨x.block, x.off, none⟩ := fun x e => by
  subst e
  unfold Value.okWide at h
  rw [Try.underlying22] at h
  simp only [Cell.okWide, Cell.ok, Try.underlying22] at h
  obtain ⟨_, _, _, hs, _⟩ := h
  obtain ⟨b, o, s⟩ := x
  simp only at hs
  rw [hs]
end Go.Proofs.Ytmhneonebjcieaa
