/- Opening arguments []api.Place and []byte. -/
import Derived.Test.YtmhneonebjcieaaW6
import Derived.OpenShut
import Derived.Deep.Slices
namespace Go.Proofs.Ytmhneonebjcieaa
open Go.RowKit

theorem addr_flat {w : World} {a : Addr} {v : Value} (h : w.cell? a = some v) : a = ⟨a.block, a.off, none⟩ := by
  obtain ⟨b, o, s⟩ := a
  cases s with
  | none => rfl
  | some x =>
    unfold World.cell? at h
    split at h
    · simp at h
    · cases h
theorem add_flat {a : Addr} (h : a = ⟨a.block, a.off, none⟩) (k : Nat) : a.add k = ⟨a.block, a.off + k, none⟩ := by
  unfold Addr.add
  split
  · rename_i h0; subst h0; exact h
  · rfl
/-- The number of an integer. -/
def intV : Value → Int
  | .int _ n => n
  | _ => 0
theorem int_cells : Try.prog.cellsOf 3 = 1 := by kernel_rfl
theorem byte_cells : Try.prog.cellsOf 5 = 1 := by kernel_rfl
set_option maxRecDepth 100000 in
theorem place_cells {H : Type} {enc : TypeId × Value → H} {w : World} {base fuel : Nat} {held : Bool} {cs : List Value} {x : DataW H × List MemPlace}
    (h : DataW.trod enc Try.prog w base (fun _ => true) held fuel 38 cs = some x) : ∃ p : Pl, cs = [.int .i64 p.fr, .int .i64 p.to, .int .i64 p.va, .int .i64 p.ki, .int .i64 p.nn] := by
  obtain ⟨xs, m, rfl, _, hlen, hxl, hf⟩ := DataW.trod_struct Try.underlying38 h
  have c5 : Try.prog.cellsOf 38 = 5 := by kernel_rfl
  rw [c5] at hlen
  match cs, hlen with
  | [v0, v1, v2, v3, v4], _ =>
    match xs, hxl with
    | [y0, y1, y2, y3, y4], _ =>
      have g0 : DataW.trod enc Try.prog w base (fun _ => true) held m 3 [v0] = some y0 := by have := hf 0 _ rfl; simpa [int_cells] using this
      have g1 : DataW.trod enc Try.prog w base (fun _ => true) held m 3 [v1] = some y1 := by have := hf 1 _ rfl; simpa [int_cells] using this
      have g2 : DataW.trod enc Try.prog w base (fun _ => true) held m 3 [v2] = some y2 := by have := hf 2 _ rfl; simpa [int_cells] using this
      have g3 : DataW.trod enc Try.prog w base (fun _ => true) held m 3 [v3] = some y3 := by have := hf 3 _ rfl; simpa [int_cells] using this
      have g4 : DataW.trod enc Try.prog w base (fun _ => true) held m 3 [v4] = some y4 := by have := hf 4 _ rfl; simpa [int_cells] using this
      obtain ⟨x0, h0, _, _⟩ := DataW.trod_int Try.underlying3 g0
      obtain ⟨x1, h1, _, _⟩ := DataW.trod_int Try.underlying3 g1
      obtain ⟨x2, h2, _, _⟩ := DataW.trod_int Try.underlying3 g2
      obtain ⟨x3, h3, _, _⟩ := DataW.trod_int Try.underlying3 g3
      obtain ⟨x4, h4, _, _⟩ := DataW.trod_int Try.underlying3 g4
      simp at h0 h1 h2 h3 h4
      exact ⟨⟨x0, x1, x2, x3, x4⟩, by rw [h0, h1, h2, h3, h4]⟩
set_option maxRecDepth 100000 in
theorem open_places {H : Type} {enc : TypeId × Value → H} {w : World} {base fuel : Nat} {held : Bool} {v : Value} {x : DataW H × List MemPlace}
    (h : DataW.trod enc Try.prog w base (fun _ => true) held fuel 22 [v] = some x) :
    ∃ a cap l, v = .slice a l.length cap ∧ PlsIn w a l ∧ l.length ≤ cap ∧ l.length ≤ maxLen := by
  have c5 : Try.prog.cellsOf 38 = 5 := by kernel_rfl
  rcases Deep.open_slice Try.underlying22 h with ⟨hv, _⟩ | ⟨a, len, cap, m, n, D, Pq, hv, _, hlc, hcm, hm, _, hall⟩
  · simp only [List.cons.injEq, and_true] at hv
    exact ⟨none, 0, [], hv, PlsIn.nil _ _, Nat.zero_le _, Nat.zero_le _⟩
  · simp only [List.cons.injEq, and_true] at hv
    rw [if_pos rfl] at hm
    have hint : ∀ i, i < cap → ∃ p : Pl, w.cell? (a.add (i * 5)) = some (.int .i64 p.fr) ∧ w.cell? (a.add (i * 5 + 1)) = some (.int .i64 p.to) ∧ w.cell? (a.add (i * 5 + 2)) = some (.int .i64 p.va) ∧ w.cell? (a.add (i * 5 + 3)) = some (.int .i64 p.ki) ∧ w.cell? (a.add (i * 5 + 4)) = some (.int .i64 p.nn) := fun i hi => by
      obtain ⟨cs', h1, h2⟩ := hall i (by omega)
      obtain ⟨p, rfl⟩ := place_cells h2
      rw [c5] at h1
      obtain ⟨_, hlen, hcell⟩ := World.cells?_some h1
      have e0 := hcell 0 (by omega)
      have e1 := hcell 1 (by omega)
      have e2 := hcell 2 (by omega)
      have e3 := hcell 3 (by omega)
      have e4 := hcell 4 (by omega)
      rw [Deep.add_add] at e0 e1 e2 e3 e4
      exact ⟨p, by simpa using e0, by simpa using e1, by simpa using e2, by simpa using e3, by simpa using e4⟩
    let P : Nat → Pl := fun i => ⟨intV ((w.cell? (a.add (i * 5))).getD (.int .i64 0)), intV ((w.cell? (a.add (i * 5 + 1))).getD (.int .i64 0)), intV ((w.cell? (a.add (i * 5 + 2))).getD (.int .i64 0)), intV ((w.cell? (a.add (i * 5 + 3))).getD (.int .i64 0)), intV ((w.cell? (a.add (i * 5 + 4))).getD (.int .i64 0))⟩
    refine ⟨some a, cap, (List.range len).map P, by simpa using hv, fun k hk => ?_, by simpa using hlc, by simp; omega⟩
    have hk : k < len := by simpa using hk
    obtain ⟨p, h0, h1, h2, h3, h4⟩ := hint k (by omega)
    obtain ⟨p0, h10, _⟩ := hint 0 (by omega)
    have hf : a = ⟨a.block, a.off, none⟩ := by
      have e : a.add (0 * 5) = a := by unfold Addr.add; simp
      rw [e] at h10
      exact addr_flat h10
    have eg : at' ((List.range len).map P) k = p := by
      unfold at'
      simp [List.getD_eq_getElem?_getD, hk, P, h0, h1, h2, h3, h4, intV]
    rw [eg]
    rw [add_flat hf] at h0 h1 h2 h3 h4
    exact ⟨a.block, a.off, by rw [← hf], h0, by rw [Nat.add_assoc]; exact h1, by rw [Nat.add_assoc]; exact h2, by rw [Nat.add_assoc]; exact h3, by rw [Nat.add_assoc]; exact h4⟩
set_option maxRecDepth 100000 in
theorem places_one {w : World} {base : Nat} {v : Value} (h : Value.okWide Try.prog w .any base 22 v) : v.cells.toList = [v] := by
  unfold Value.okWide at h
  rw [Try.underlying22] at h
  cases v with
  | agg cs => simp [Cell.okWide, Cell.ok, Try.underlying22] at h
  | _ => rfl
end Go.Proofs.Ytmhneonebjcieaa
