/- Opening arguments []api.Code and []int. -/
import Derived.Test.YtjfpaelmcepidaaKD
import Derived.OpenShut
import Derived.Deep.Slices
namespace Go.Proofs.Ytjfpaelmcepidaa.PK
open Go.RowKit

theorem addr_flat {w : World} {a : Addr} {v : Value} (h : w.cell? a = some v) : a = ⟨a.block, a.off, none⟩ := by
  obtain ⟨b, o, s⟩ := a
  cases s with
  | none => rfl
  | some x =>
    unfold World.cell? at h
    split at h
    · simp at h
    · cases h
theorem add_flat {a : Addr} (h : a = ⟨a.block, a.off, none⟩) (k : Nat) : a.add k = ⟨a.block, a.off + k, none⟩ := by
  unfold Addr.add
  split
  · rename_i h0; subst h0; exact h
  · rfl
/-- The number of an integer. -/
def intV : Value → Int
  | .int _ n => n
  | _ => 0
theorem u32_cells : Try.prog.cellsOf 65 = 1 := by kernel_rfl
theorem int_cells : Try.prog.cellsOf 3 = 1 := by kernel_rfl
set_option maxRecDepth 100000 in
theorem code_cells {H : Type} {enc : TypeId × Value → H} {w : World} {base fuel : Nat} {held : Bool} {cs : List Value} {x : DataW H × List MemPlace}
    (h : DataW.trod enc Try.prog w base (fun _ => true) held fuel 68 cs = some x) : ∃ p : Cd, cs = [.int .i64 p.op, .int .i64 p.d, .int .i64 p.a, .int .i64 p.b, .int .u32 p.im, .int .i64 p.to] := by
  obtain ⟨xs, m, rfl, _, hlen, hxl, hf⟩ := DataW.trod_struct Try.underlying68 h
  have c6 : Try.prog.cellsOf 68 = 6 := by kernel_rfl
  rw [c6] at hlen
  match cs, hlen with
  | [v0, v1, v2, v3, v4, v5], _ =>
    match xs, hxl with
    | [y0, y1, y2, y3, y4, y5], _ =>
      have g0 : DataW.trod enc Try.prog w base (fun _ => true) held m 3 [v0] = some y0 := by have := hf 0 _ rfl; simpa [int_cells, u32_cells] using this
      have g1 : DataW.trod enc Try.prog w base (fun _ => true) held m 3 [v1] = some y1 := by have := hf 1 _ rfl; simpa [int_cells, u32_cells] using this
      have g2 : DataW.trod enc Try.prog w base (fun _ => true) held m 3 [v2] = some y2 := by have := hf 2 _ rfl; simpa [int_cells, u32_cells] using this
      have g3 : DataW.trod enc Try.prog w base (fun _ => true) held m 3 [v3] = some y3 := by have := hf 3 _ rfl; simpa [int_cells, u32_cells] using this
      have g4 : DataW.trod enc Try.prog w base (fun _ => true) held m 65 [v4] = some y4 := by have := hf 4 _ rfl; simpa [int_cells, u32_cells] using this
      have g5 : DataW.trod enc Try.prog w base (fun _ => true) held m 3 [v5] = some y5 := by have := hf 5 _ rfl; simpa [int_cells, u32_cells] using this
      obtain ⟨x0, h0, _, w0⟩ := DataW.trod_int Try.underlying3 g0
      obtain ⟨x1, h1, _, w1⟩ := DataW.trod_int Try.underlying3 g1
      obtain ⟨x2, h2, _, w2⟩ := DataW.trod_int Try.underlying3 g2
      obtain ⟨x3, h3, _, w3⟩ := DataW.trod_int Try.underlying3 g3
      obtain ⟨x4, h4, _, w4⟩ := DataW.trod_int Try.underlying65 g4
      obtain ⟨x5, h5, _, w5⟩ := DataW.trod_int Try.underlying3 g5
      simp at h0 h1 h2 h3 h4 h5
      have h40 : 0 ≤ x4 := by simp [Lit.wf, IntKind.min, IntKind.max, IntKind.bits, IntKind.signed] at w4; omega
      exact ⟨⟨x0, x1, x2, x3, x4.toNat, x5⟩, by rw [h0, h1, h2, h3, h4, h5]; simp only [Int.toNat_of_nonneg h40]⟩
set_option maxRecDepth 100000 in
theorem open_codes {H : Type} {enc : TypeId × Value → H} {w : World} {base fuel : Nat} {held : Bool} {v : Value} {x : DataW H × List MemPlace}
    (h : DataW.trod enc Try.prog w base (fun _ => true) held fuel 48 [v] = some x) :
    ∃ a cap l, v = .slice a l.length cap ∧ CdsIn w a l ∧ l.length ≤ cap ∧ l.length ≤ maxLen := by
  have c6 : Try.prog.cellsOf 68 = 6 := by kernel_rfl
  rcases Deep.open_slice Try.underlying48 h with ⟨hv, _⟩ | ⟨a, len, cap, m, n, D, Pq, hv, _, hlc, hcm, hm, _, hall⟩
  · simp only [List.cons.injEq, and_true] at hv
    exact ⟨none, 0, [], hv, CdsIn.nil _ _, Nat.zero_le _, Nat.zero_le _⟩
  · simp only [List.cons.injEq, and_true] at hv
    rw [if_pos rfl] at hm
    have hint : ∀ i, i < cap → ∃ p : Cd, w.cell? (a.add (i * 6)) = some (.int .i64 p.op) ∧ w.cell? (a.add (i * 6 + 1)) = some (.int .i64 p.d) ∧ w.cell? (a.add (i * 6 + 2)) = some (.int .i64 p.a) ∧ w.cell? (a.add (i * 6 + 3)) = some (.int .i64 p.b) ∧ w.cell? (a.add (i * 6 + 4)) = some (.int .u32 p.im) ∧ w.cell? (a.add (i * 6 + 5)) = some (.int .i64 p.to) := fun i hi => by
      obtain ⟨cs', h1, h2⟩ := hall i (by omega)
      obtain ⟨p, rfl⟩ := code_cells h2
      rw [c6] at h1
      obtain ⟨_, hlen, hcell⟩ := World.cells?_some h1
      have e0 := hcell 0 (by omega)
      have e1 := hcell 1 (by omega)
      have e2 := hcell 2 (by omega)
      have e3 := hcell 3 (by omega)
      have e4 := hcell 4 (by omega)
      have e5 := hcell 5 (by omega)
      rw [Deep.add_add] at e0 e1 e2 e3 e4 e5
      exact ⟨p, by simpa using e0, by simpa using e1, by simpa using e2, by simpa using e3, by simpa using e4, by simpa using e5⟩
    let P : Nat → Cd := fun i => ⟨intV ((w.cell? (a.add (i * 6))).getD (.int .i64 0)), intV ((w.cell? (a.add (i * 6 + 1))).getD (.int .i64 0)), intV ((w.cell? (a.add (i * 6 + 2))).getD (.int .i64 0)), intV ((w.cell? (a.add (i * 6 + 3))).getD (.int .i64 0)), (intV ((w.cell? (a.add (i * 6 + 4))).getD (.int .i64 0))).toNat, intV ((w.cell? (a.add (i * 6 + 5))).getD (.int .i64 0))⟩
    refine ⟨some a, cap, (List.range len).map P, by simpa using hv, fun k hk => ?_, by simpa using hlc, by simp; omega⟩
    have hk : k < len := by simpa using hk
    obtain ⟨p, h0, h1, h2, h3, h4, h5⟩ := hint k (by omega)
    obtain ⟨p0, h10, _⟩ := hint 0 (by omega)
    have hf : a = ⟨a.block, a.off, none⟩ := by
      have e : a.add (0 * 6) = a := by unfold Addr.add; simp
      rw [e] at h10
      exact addr_flat h10
    have eg : atC ((List.range len).map P) k = p := by
      unfold atC
      simp [List.getD_eq_getElem?_getD, hk, P, h0, h1, h2, h3, h4, h5, intV]
    rw [eg]
    rw [add_flat hf] at h0 h1 h2 h3 h4 h5
    exact ⟨a.block, a.off, by rw [← hf], h0, by rw [Nat.add_assoc]; exact h1, by rw [Nat.add_assoc]; exact h2, by rw [Nat.add_assoc]; exact h3, by rw [Nat.add_assoc]; exact h4, by rw [Nat.add_assoc]; exact h5⟩
set_option maxRecDepth 100000 in
theorem codes_one {w : World} {base : Nat} {v : Value} (h : Value.okWide Try.prog w .any base 48 v) : v.cells.toList = [v] := by
  unfold Value.okWide at h
  rw [Try.underlying48] at h
  cases v with
  | agg cs => simp [Cell.okWide, Cell.ok, Try.underlying48] at h
  | _ => rfl
set_option maxRecDepth 100000 in
theorem open_ints {H : Type} {enc : TypeId × Value → H} {w : World} {base fuel : Nat} {held : Bool} {v : Value} {x : DataW H × List MemPlace}
    (h : DataW.trod enc Try.prog w base (fun _ => true) held fuel 43 [v] = some x) :
    ∃ a cap l, v = .slice a l.length cap ∧ IntsIn w a l ∧ l.length ≤ cap ∧ l.length ≤ maxLen := by
  rcases Deep.open_slice1 Try.underlying43 int_cells h with ⟨hv, _⟩ | ⟨a, len, cap, m, n, V, D, Pl, hv, _, hlc, hcm, hm, _, hall⟩
  · simp only [List.cons.injEq, and_true] at hv
    exact ⟨none, 0, [], hv, fun _ hk => absurd hk (Nat.not_lt_zero _), Nat.zero_le _, Nat.zero_le _⟩
  · simp only [List.cons.injEq, and_true] at hv
    rw [if_pos rfl] at hm
    have hint : ∀ i, i < cap → ∃ x : Int, w.cell? (a.add i) = some (.int .i64 x) := fun i hi => by
      obtain ⟨h1, h2⟩ := hall i (by omega)
      obtain ⟨x, hx, _, _⟩ := DataW.trod_int Try.underlying3 h2
      simp only [List.cons.injEq, and_true] at hx
      exact ⟨x, by rw [h1, hx]⟩
    refine ⟨some a, cap, (List.range len).map fun i => intV ((w.cell? (a.add i)).getD (.int .i64 0)), by simpa using hv, fun k hk => ?_, by simpa using hlc, by simp; omega⟩
    have hk : k < len := by simpa using hk
    obtain ⟨x, h1⟩ := hint k (by omega)
    obtain ⟨x0, h10⟩ := hint 0 (by omega)
    have hf : a = ⟨a.block, a.off, none⟩ := by
      have e : a.add 0 = a := by unfold Addr.add; simp
      rw [e] at h10
      exact addr_flat h10
    have eg : ((List.range len).map fun i => intV ((w.cell? (a.add i)).getD (.int .i64 0))).getD k 0 = x := by
      simp [List.getD_eq_getElem?_getD, hk, h1, intV]
    rw [eg]
    rw [add_flat hf] at h1
    exact ⟨a.block, a.off, by rw [← hf], h1⟩
set_option maxRecDepth 100000 in
theorem ints_one {w : World} {base : Nat} {v : Value} (h : Value.okWide Try.prog w .any base 43 v) : v.cells.toList = [v] := by
  unfold Value.okWide at h
  rw [Try.underlying43] at h
  cases v with
  | agg cs => simp [Cell.okWide, Cell.ok, Try.underlying43] at h
  | _ => rfl
end Go.Proofs.Ytjfpaelmcepidaa.PK
