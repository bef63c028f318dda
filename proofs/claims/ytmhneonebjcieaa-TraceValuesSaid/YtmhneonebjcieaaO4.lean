/- Opening an argument api.Machine. -/
import Derived.Test.YtmhneonebjcieaaO2
import Derived.Test.YtmhneonebjcieaaMV
namespace Go.Proofs.Ytmhneonebjcieaa
open Go.RowKit

theorem wf_word {n : Int} (h : (Lit.int .u32 n).wf = true) : 0 ≤ n ∧ n < 4294967296 := by
  simp [Lit.wf, IntKind.min, IntKind.max, IntKind.bits, IntKind.signed] at h
  omega
theorem drop_one {L : List Value} {j : Nat} (h : j < L.length) : (L.drop j).take 1 = [L[j]] := by
  rw [List.drop_eq_getElem_cons h]; rfl
theorem word_cells : Try.prog.cellsOf 54 = 1 := by kernel_rfl
set_option maxRecDepth 100000 in
theorem regs_arr {H : Type} {enc : TypeId × Value → H} {w : World} {base fuel : Nat} {held : Bool} {cs : List Value} {x : DataW H × List MemPlace}
    (h : DataW.trod enc Try.prog w base (fun _ => true) held fuel 55 cs = some x) : ∀ j (hj : j < cs.length), j < 32 → ∃ n : Nat, n < 4294967296 ∧ cs[j] = .int .u32 (n : Nat) := by
  obtain ⟨xs, m, rfl, _, hlen, hxl, hf⟩ := DataW.trod_array Try.underlying55 h
  intro j hj h32
  have g := hf j h32
  rw [word_cells, Nat.mul_one, drop_one hj] at g
  have hx : ∃ y, xs[j]? = some y := ⟨_, List.getElem?_eq_getElem (by omega)⟩
  obtain ⟨y, hy⟩ := hx
  rw [hy] at g
  obtain ⟨n, hn, _, hw⟩ := DataW.trod_int Try.underlying54 g
  simp only [List.cons.injEq, and_true] at hn
  obtain ⟨h0, h1⟩ := wf_word hw
  exact ⟨n.toNat, by omega, by rw [hn, Int.toNat_of_nonneg h0]⟩
set_option maxRecDepth 100000 in
theorem open_machine {H : Type} {enc : TypeId × Value → H} {w : World} {base b0 : Nat} {held : Bool} {v : Value} {d : DataW H} {p : List MemPlace}
    (hv : Value.okWide Try.prog w .any b0 57 v) (h : DataW.Trod enc Try.prog w base (fun _ => true) held 57 v d p) :
    ∃ C R at0 ma mcap mem, v = .agg C ∧ MachV C R at0 ma mcap mem ∧ BytesIn w ma mem := by
  unfold Value.okWide at hv
  rw [Try.underlying57] at hv
  obtain ⟨C, rfl, hs, _⟩ := hv
  have c36 : Try.prog.cellsOf 57 = 36 := by kernel_rfl
  have c32 : Try.prog.cellsOf 55 = 32 := by kernel_rfl
  rw [c36] at hs
  obtain ⟨fuel, hf⟩ := h
  have hf : DataW.trod enc Try.prog w base (fun _ => true) held fuel 57 C.toList = some (d, p) := hf
  obtain ⟨xs, m, rfl, _, hlen, hxl, hf⟩ := DataW.trod_struct Try.underlying57 hf
  have hL : C.toList.length = 36 := by simpa using hs
  match xs, hxl with
  | [y0, y1, y2, y3, y4], _ =>
    have g0 : DataW.trod enc Try.prog w base (fun _ => true) held m 55 ((C.toList.drop 0).take (Try.prog.cellsOf 55)) = some y0 := hf 0 _ rfl
    have g2 : DataW.trod enc Try.prog w base (fun _ => true) held m 54 ((C.toList.drop 33).take (Try.prog.cellsOf 54)) = some y2 := hf 2 _ rfl
    have g3 : DataW.trod enc Try.prog w base (fun _ => true) held m 25 ((C.toList.drop 34).take (Try.prog.cellsOf 25)) = some y3 := hf 3 _ rfl
    rw [c32] at g0
    rw [word_cells] at g2
    rw [show Try.prog.cellsOf 25 = 1 by kernel_rfl] at g3
    rw [drop_one (show 33 < C.toList.length by omega)] at g2
    rw [drop_one (show 34 < C.toList.length by omega)] at g3
    have g0 : DataW.trod enc Try.prog w base (fun _ => true) held m 55 (C.toList.take 32) = some y0 := g0
    have g2 : DataW.trod enc Try.prog w base (fun _ => true) held m 54 [C.toList[33]] = some y2 := g2
    have g3 : DataW.trod enc Try.prog w base (fun _ => true) held m 25 [C.toList[34]] = some y3 := g3
    have hr := regs_arr g0
    obtain ⟨at1, hat, _, hwa⟩ := DataW.trod_int Try.underlying54 g2
    simp only [List.cons.injEq, and_true] at hat
    obtain ⟨a0, a1⟩ := wf_word hwa
    obtain ⟨ma, mcap, mem, hme, hin, hlc, _, hby⟩ := open_bytes g3
    have hget : ∀ j (hj : j < C.toList.length), C[j]? = some C.toList[j] := fun j hj => by
      rw [← Array.getElem?_toList, List.getElem?_eq_getElem hj]
    have hreg : ∀ j, j < 32 → ∃ n : Nat, n < 4294967296 ∧ C[j]? = some (.int .u32 (n : Nat)) := fun j hj => by
      obtain ⟨n, h1, h2⟩ := hr j (by rw [List.length_take]; omega) hj
      rw [List.getElem_take] at h2
      exact ⟨n, h1, by rw [hget j (by omega), h2]⟩
    refine ⟨C, fun j => (intV (C[j]?.getD (.int .i64 0))).toNat, at1.toNat, ma, mcap, mem, rfl, ⟨hs, fun j hj => ?_, ?_, ?_, by omega, fun j hj => ?_, hlc, hby⟩, hin⟩
    · obtain ⟨n, _, h2⟩ := hreg j hj
      rw [h2]; simp [intV]
    · rw [hget 33 (by omega), hat, Int.toNat_of_nonneg a0]
    · rw [hget 34 (by omega), hme]
    · obtain ⟨n, h1, h2⟩ := hreg j hj
      rw [h2]; simpa [intV] using h1
/-- A machine for the witness. -/
def machW : Value := .agg (List.replicate 32 (Value.int .u32 0) ++ [Value.int .i64 0, Value.int .u32 0, Value.slice none 0 0, Value.int .i64 0]).toArray
def machD {H : Type} : DataW H := .agg [DataW.agg (List.replicate 32 (DataW.lit (.int .u32 0))), DataW.lit (.int .i64 0), DataW.lit (.int .u32 0), DataW.nil, DataW.lit (.int .i64 0)]
end Go.Proofs.Ytmhneonebjcieaa
