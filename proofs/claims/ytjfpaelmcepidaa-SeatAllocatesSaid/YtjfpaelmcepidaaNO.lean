/- Opening arguments api.Code and api.Program. -/
import Derived.Test.YtjfpaelmcepidaaKZ
import Derived.Test.YtjfpaelmcepidaaKP
import Derived.Lib.SmallJoins
namespace Go.Proofs.Ytjfpaelmcepidaa.PK
open Go.RowKit Go.Joins Go.Deep Go.ChangeShapes Go.WideShapes

set_option maxRecDepth 100000 in
/-- What the reading of an argument api.Code tells. -/
theorem open_code {H : Type} {enc : TypeId × Value → H} {w : World} {r : Reach} {b0 base : Nat} {held : Bool} {v : Value} {d : DataW H} {p : List MemPlace}
    (hv : Value.okWide Try.prog w r b0 68 v) (h : DataW.Trod enc Try.prog w base (fun _ => true) held 68 v d p) :
    ∃ x : Cd, v = (.agg #[.int .i64 x.op, .int .i64 x.d, .int .i64 x.a, .int .i64 x.b, .int .u32 x.im, .int .i64 x.to]) ∧ x.im < 4294967296 := by
  obtain ⟨cs, rfl, hsz⟩ := okWide_struct Try.underlying68 hv
  obtain ⟨fuel, hf⟩ := h
  obtain ⟨q, hq, hw⟩ := code_cells_w hf
  refine ⟨q, ?_, hw⟩
  obtain ⟨l⟩ := cs
  simp only [Value.cells] at hq
  subst hq
  rfl
theorem blk_cells : Try.prog.cellsOf 48 = 1 := by kernel_rfl
set_option maxRecDepth 100000 in
/-- What the reading of rows of instructions tells. -/
theorem open_blocks {H : Type} {enc : TypeId × Value → H} {w : World} {base fuel : Nat} {held : Bool} {v : Value} {x : DataW H × List MemPlace}
    (h : DataW.trod enc Try.prog w base (fun _ => true) held fuel 22 [v] = some x) :
    ∃ a cap ls, v = .slice a ls.length cap ∧ BlkIn w a ls ∧ ls.length ≤ 9223372036854775807 ∧ (∀ k, k < ls.length → (atB ls k).length ≤ 9223372036854775807) ∧ ∀ k i, (atC (atB ls k) i).im < 4294967296 := by
  rcases Deep.open_slice1 Try.underlying22 blk_cells h with ⟨hv, _⟩ | ⟨a, len, cap, m, n, V, D, Pl, hv, _, hlc, hcm, hm, _, hall⟩
  · simp only [List.cons.injEq, and_true] at hv
    exact ⟨none, 0, [], hv, fun _ hk => absurd hk (Nat.not_lt_zero _), Nat.zero_le _, fun _ hk => absurd hk (Nat.not_lt_zero _), fun k i => by simp [atB, atC, noCd]⟩
  · simp only [List.cons.injEq, and_true] at hv
    rw [if_pos rfl] at hm
    have hcm2 : cap ≤ 9223372036854775807 := hcm
    have hex : ∀ i, ∃ l : List Cd, i < cap → ∃ a' c', w.cell? (a.add i) = some (.slice a' l.length c') ∧ CdsIn w a' l ∧ l.length ≤ 9223372036854775807 ∧ ∀ k, (atC l k).im < 4294967296 := fun i => by
      by_cases hi : i < cap
      · obtain ⟨h1, h2⟩ := hall i (by omega)
        obtain ⟨a', c', l, e, hin, _, hl, him, _⟩ := open_codes_w h2
        refine ⟨l, fun _ => ⟨a', c', by rw [h1, e], hin, hl, him⟩⟩
      · exact ⟨[], fun h => absurd h hi⟩
    obtain ⟨f, hf⟩ := Classical.axiomOfChoice hex
    have eg : ∀ k, k < len → atB ((List.range len).map f) k = f k := fun k hk => by
      unfold atB
      simp [List.getD_eq_getElem?_getD, hk]
    refine ⟨some a, cap, (List.range len).map f, by simpa using hv, fun k hk => ?_, by simp; omega, fun k hk => ?_, fun k i => ?_⟩
    · have hk : k < len := by simpa using hk
      obtain ⟨a', c', h1, h2, _⟩ := hf k (by omega)
      obtain ⟨a0, c0, h10, _⟩ := hf 0 (by omega)
      have hfl : a = ⟨a.block, a.off, none⟩ := by
        have e : a.add 0 = a := by unfold Addr.add; simp
        rw [e] at h10
        exact addr_flat h10
      rw [eg k hk]
      rw [add_flat hfl] at h1
      exact ⟨a.block, a.off, a', c', by rw [← hfl], h1, h2⟩
    · have hk : k < len := by simpa using hk
      rw [eg k hk]
      obtain ⟨a', c', _, _, h3, _⟩ := hf k (by omega)
      exact h3
    · by_cases hk : k < len
      · rw [eg k hk]
        obtain ⟨a', c', _, _, _, h4⟩ := hf k (by omega)
        exact h4 i
      · have e : atB ((List.range len).map f) k = [] := by
          unfold atB
          rw [List.getD_eq_getElem?_getD, List.getElem?_eq_none (by simp; omega)]; rfl
        rw [e]
        simp [atC, noCd]
set_option maxRecDepth 100000 in
/-- What the reading of an argument api.Program tells. -/
theorem open_prog {H : Type} {enc : TypeId × Value → H} {w : World} {r : Reach} {b0 base : Nat} {held : Bool} {v : Value} {d : DataW H} {p : List MemPlace}
    (hv : Value.okWide Try.prog w r b0 24 v) (h : DataW.Trod enc Try.prog w base (fun _ => true) held 24 v d p) :
    ∃ regs a cap ls, v = .agg #[.int .i64 regs, .slice a ls.length cap] ∧ BlkIn w a ls ∧ ls.length ≤ 9223372036854775807 ∧ (∀ k, k < ls.length → (atB ls k).length ≤ 9223372036854775807) ∧ ∀ k i, (atC (atB ls k) i).im < 4294967296 := by
  obtain ⟨v0, v1, y0, y1, n, rfl, rfl, rfl, h0, h1⟩ := open_agg2 Try.underlying24 (by kernel_rfl) (by kernel_rfl) hv h
  obtain ⟨x0, e0, _, _⟩ := DataW.trod_int Try.underlying3 h0
  obtain ⟨a, cap, ls, rfl, hr⟩ := open_blocks h1
  simp only [List.cons.injEq, and_true] at e0
  subst e0
  exact ⟨x0, a, cap, ls, rfl, hr⟩
end Go.Proofs.Ytjfpaelmcepidaa.PK
