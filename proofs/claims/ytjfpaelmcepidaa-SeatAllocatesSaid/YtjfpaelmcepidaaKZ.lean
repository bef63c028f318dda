/- Opening arguments []api.Code with a bound on what they hold, and []uint32. -/
import Derived.Test.YtjfpaelmcepidaaKO
import Derived.Test.YtjfpaelmcepidaaM0
namespace Go.Proofs.Ytjfpaelmcepidaa.PK
open Go.RowKit

set_option maxRecDepth 100000 in
theorem code_cells_w {H : Type} {enc : TypeId × Value → H} {w : World} {base fuel : Nat} {held : Bool} {cs : List Value} {x : DataW H × List MemPlace}
    (h : DataW.trod enc Try.prog w base (fun _ => true) held fuel 68 cs = some x) : ∃ p : Cd, cs = [.int .i64 p.op, .int .i64 p.d, .int .i64 p.a, .int .i64 p.b, .int .u32 p.im, .int .i64 p.to] ∧ p.im < 4294967296 := by
  obtain ⟨xs, m, rfl, _, hlen, hxl, hf⟩ := DataW.trod_struct Try.underlying68 h
  have c6 : Try.prog.cellsOf 68 = 6 := by kernel_rfl
  rw [c6] at hlen
  match cs, hlen with
  | [v0, v1, v2, v3, v4, v5], _ =>
    match xs, hxl with
    | [y0, y1, y2, y3, y4, y5], _ =>
      have g0 : DataW.trod enc Try.prog w base (fun _ => true) held m 3 [v0] = some y0 := by have := hf 0 _ rfl; simpa [int_cells, u32_cells] using this
      have g1 : DataW.trod enc Try.prog w base (fun _ => true) held m 3 [v1] = some y1 := by have := hf 1 _ rfl; simpa [int_cells, u32_cells] using this
      have g2 : DataW.trod enc Try.prog w base (fun _ => true) held m 3 [v2] = some y2 := by have := hf 2 _ rfl; simpa [int_cells, u32_cells] using this
      have g3 : DataW.trod enc Try.prog w base (fun _ => true) held m 3 [v3] = some y3 := by have := hf 3 _ rfl; simpa [int_cells, u32_cells] using this
      have g4 : DataW.trod enc Try.prog w base (fun _ => true) held m 65 [v4] = some y4 := by have := hf 4 _ rfl; simpa [int_cells, u32_cells] using this
      have g5 : DataW.trod enc Try.prog w base (fun _ => true) held m 3 [v5] = some y5 := by have := hf 5 _ rfl; simpa [int_cells, u32_cells] using this
      obtain ⟨x0, h0, _, w0⟩ := DataW.trod_int Try.underlying3 g0
      obtain ⟨x1, h1, _, w1⟩ := DataW.trod_int Try.underlying3 g1
      obtain ⟨x2, h2, _, w2⟩ := DataW.trod_int Try.underlying3 g2
      obtain ⟨x3, h3, _, w3⟩ := DataW.trod_int Try.underlying3 g3
      obtain ⟨x4, h4, _, w4⟩ := DataW.trod_int Try.underlying65 g4
      obtain ⟨x5, h5, _, w5⟩ := DataW.trod_int Try.underlying3 g5
      simp at h0 h1 h2 h3 h4 h5
      have h40 : 0 ≤ x4 := by simp [Lit.wf, IntKind.min, IntKind.max, IntKind.bits, IntKind.signed] at w4; omega
      have h41 : x4 < 4294967296 := by simp [Lit.wf, IntKind.min, IntKind.max, IntKind.bits, IntKind.signed] at w4; omega
      exact ⟨⟨x0, x1, x2, x3, x4.toNat, x5⟩, by rw [h0, h1, h2, h3, h4, h5]; simp only [Int.toNat_of_nonneg h40], by show x4.toNat < _; omega⟩
set_option maxRecDepth 100000 in
theorem open_codes_w {H : Type} {enc : TypeId × Value → H} {w : World} {base fuel : Nat} {held : Bool} {v : Value} {x : DataW H × List MemPlace}
    (h : DataW.trod enc Try.prog w base (fun _ => true) held fuel 48 [v] = some x) :
    ∃ a cap l, v = .slice a l.length cap ∧ CdsIn w a l ∧ l.length ≤ cap ∧ l.length ≤ maxLen ∧ (∀ k, (atC l k).im < 4294967296) ∧ (a = none → cap = 0) := by
  have c6 : Try.prog.cellsOf 68 = 6 := by kernel_rfl
  rcases Deep.open_slice Try.underlying48 h with ⟨hv, _⟩ | ⟨a, len, cap, m, n, D, Pq, hv, _, hlc, hcm, hm, _, hall⟩
  · simp only [List.cons.injEq, and_true] at hv
    exact ⟨none, 0, [], hv, CdsIn.nil _ _, Nat.zero_le _, Nat.zero_le _, fun k => by simp [atC, noCd], fun _ => rfl⟩
  · simp only [List.cons.injEq, and_true] at hv
    rw [if_pos rfl] at hm
    have hint : ∀ i, i < cap → ∃ p : Cd, w.cell? (a.add (i * 6)) = some (.int .i64 p.op) ∧ w.cell? (a.add (i * 6 + 1)) = some (.int .i64 p.d) ∧ w.cell? (a.add (i * 6 + 2)) = some (.int .i64 p.a) ∧ w.cell? (a.add (i * 6 + 3)) = some (.int .i64 p.b) ∧ w.cell? (a.add (i * 6 + 4)) = some (.int .u32 p.im) ∧ w.cell? (a.add (i * 6 + 5)) = some (.int .i64 p.to) ∧ p.im < 4294967296 := fun i hi => by
      obtain ⟨cs', h1, h2⟩ := hall i (by omega)
      obtain ⟨p, rfl, hpw⟩ := code_cells_w h2
      rw [c6] at h1
      obtain ⟨_, hlen, hcell⟩ := World.cells?_some h1
      have e0 := hcell 0 (by omega)
      have e1 := hcell 1 (by omega)
      have e2 := hcell 2 (by omega)
      have e3 := hcell 3 (by omega)
      have e4 := hcell 4 (by omega)
      have e5 := hcell 5 (by omega)
      rw [Deep.add_add] at e0 e1 e2 e3 e4 e5
      exact ⟨p, by simpa using e0, by simpa using e1, by simpa using e2, by simpa using e3, by simpa using e4, by simpa using e5, hpw⟩
    let P : Nat → Cd := fun i => ⟨intV ((w.cell? (a.add (i * 6))).getD (.int .i64 0)), intV ((w.cell? (a.add (i * 6 + 1))).getD (.int .i64 0)), intV ((w.cell? (a.add (i * 6 + 2))).getD (.int .i64 0)), intV ((w.cell? (a.add (i * 6 + 3))).getD (.int .i64 0)), (intV ((w.cell? (a.add (i * 6 + 4))).getD (.int .i64 0))).toNat, intV ((w.cell? (a.add (i * 6 + 5))).getD (.int .i64 0))⟩
    have hat : ∀ k p, k < len → w.cell? (a.add (k * 6)) = some (.int .i64 p.op) → w.cell? (a.add (k * 6 + 1)) = some (.int .i64 p.d) → w.cell? (a.add (k * 6 + 2)) = some (.int .i64 p.a) → w.cell? (a.add (k * 6 + 3)) = some (.int .i64 p.b) → w.cell? (a.add (k * 6 + 4)) = some (.int .u32 p.im) → w.cell? (a.add (k * 6 + 5)) = some (.int .i64 p.to) → atC ((List.range len).map P) k = p := fun k p hk h0 h1 h2 h3 h4 h5 => by
      unfold atC
      simp [List.getD_eq_getElem?_getD, hk, P, h0, h1, h2, h3, h4, h5, intV]
    refine ⟨some a, cap, (List.range len).map P, by simpa using hv, fun k hk => ?_, by simpa using hlc, by simp; omega, fun k => ?_, fun e => by cases e⟩
    rotate_left
    · by_cases hk : k < len
      · obtain ⟨p, h0, h1, h2, h3, h4, h5, h6⟩ := hint k (by omega)
        rw [hat k p hk h0 h1 h2 h3 h4 h5]; exact h6
      · unfold atC
        rw [List.getD_eq_getElem?_getD, List.getElem?_eq_none (by simp; omega)]
        simp [noCd]
    have hk : k < len := by simpa using hk
    obtain ⟨p, h0, h1, h2, h3, h4, h5, _⟩ := hint k (by omega)
    obtain ⟨p0, h10, _⟩ := hint 0 (by omega)
    have hf : a = ⟨a.block, a.off, none⟩ := by
      have e : a.add (0 * 6) = a := by unfold Addr.add; simp
      rw [e] at h10
      exact addr_flat h10
    have eg := hat k p hk h0 h1 h2 h3 h4 h5
    rw [eg]
    rw [add_flat hf] at h0 h1 h2 h3 h4 h5
    exact ⟨a.block, a.off, by rw [← hf], h0, by rw [Nat.add_assoc]; exact h1, by rw [Nat.add_assoc]; exact h2, by rw [Nat.add_assoc]; exact h3, by rw [Nat.add_assoc]; exact h4, by rw [Nat.add_assoc]; exact h5⟩
/-- The cells of a slice are these words. -/
def WsIn (w : World) (a : Option Addr) (l : List Int) : Prop :=
  ∀ k, k < l.length → ∃ b off, a = some ⟨b, off, none⟩ ∧ w.cell? ⟨b, off + k, none⟩ = some (.int .u32 (l.getD k 0))
theorem WsIn.below {w w' : World} {a : Option Addr} {l : List Int} (h : WsIn w a l) (hb : Below w.heap.size w w') : WsIn w' a l := fun k hk => by
  obtain ⟨b, off, rfl, hc⟩ := h k hk
  exact ⟨b, off, rfl, keep hc hb⟩
set_option maxRecDepth 100000 in
theorem open_words {H : Type} {enc : TypeId × Value → H} {w : World} {base fuel : Nat} {held : Bool} {v : Value} {x : DataW H × List MemPlace}
    (h : DataW.trod enc Try.prog w base (fun _ => true) held fuel 25 [v] = some x) :
    ∃ a cap l, v = .slice a l.length cap ∧ WsIn w a l ∧ l.length ≤ cap ∧ l.length ≤ maxLen ∧ ∀ k, k < l.length → isW (l.getD k 0) := by
  rcases Deep.open_slice1 Try.underlying25 u32_cells h with ⟨hv, _⟩ | ⟨a, len, cap, m, n, V, D, Pl, hv, _, hlc, hcm, hm, _, hall⟩
  · simp only [List.cons.injEq, and_true] at hv
    exact ⟨none, 0, [], hv, fun _ hk => absurd hk (Nat.not_lt_zero _), Nat.zero_le _, Nat.zero_le _, fun _ hk => absurd hk (Nat.not_lt_zero _)⟩
  · simp only [List.cons.injEq, and_true] at hv
    rw [if_pos rfl] at hm
    have hint : ∀ i, i < cap → ∃ x : Int, w.cell? (a.add i) = some (.int .u32 x) ∧ isW x := fun i hi => by
      obtain ⟨h1, h2⟩ := hall i (by omega)
      obtain ⟨x, hx, _, wx⟩ := DataW.trod_int Try.underlying65 h2
      simp only [List.cons.injEq, and_true] at hx
      simp [Lit.wf, IntKind.min, IntKind.max, IntKind.bits, IntKind.signed] at wx
      exact ⟨x, by rw [h1, hx], by omega, by omega⟩
    have hat : ∀ k x, k < len → w.cell? (a.add k) = some (.int .u32 x) → ((List.range len).map fun i => intV ((w.cell? (a.add i)).getD (.int .i64 0))).getD k 0 = x := fun k x hk h1 => by
      simp [List.getD_eq_getElem?_getD, hk, h1, intV]
    refine ⟨some a, cap, (List.range len).map fun i => intV ((w.cell? (a.add i)).getD (.int .i64 0)), by simpa using hv, fun k hk => ?_, by simpa using hlc, by simp; omega, fun k hk => ?_⟩
    · have hk : k < len := by simpa using hk
      obtain ⟨x, h1, _⟩ := hint k (by omega)
      obtain ⟨x0, h10, _⟩ := hint 0 (by omega)
      have hf : a = ⟨a.block, a.off, none⟩ := by
        have e : a.add 0 = a := by unfold Addr.add; simp
        rw [e] at h10
        exact addr_flat h10
      rw [hat k x hk h1]
      rw [add_flat hf] at h1
      exact ⟨a.block, a.off, by rw [← hf], h1⟩
    · have hk : k < len := by simpa using hk
      obtain ⟨x, h1, h2⟩ := hint k (by omega)
      rw [hat k x hk h1]; exact h2
set_option maxRecDepth 100000 in
theorem words_one {w : World} {base : Nat} {v : Value} (h : Value.okWide Try.prog w .any base 25 v) : v.cells.toList = [v] := by
  unfold Value.okWide at h
  rw [Try.underlying25] at h
  cases v with
  | agg cs => simp [Cell.okWide, Cell.ok, Try.underlying25] at h
  | _ => rfl
end Go.Proofs.Ytjfpaelmcepidaa.PK
