/- Bytes in memory; the walks of the specification's read and write. -/
import Derived.Test.YtjfpaelmcepidaaMB
import Derived.Test.YtjfpaelmcepidaaKR
namespace Go.Proofs.Ytjfpaelmcepidaa.PK
open Go.RowKit

def encB (l : List Int) : List Value := l.map fun x => .int .u8 x
theorem encB_len (l : List Int) : (encB l).length = l.length := by simp [encB]
theorem encB_get {l : List Int} {k : Nat} (h : k < l.length) : (encB l)[k]? = some (.int .u8 (l.getD k 0)) := by
  simp [encB, List.getD_eq_getElem?_getD, h]
theorem encB_set (l : List Int) (k : Nat) (x : Int) : encB (l.set k x) = (encB l).set k (.int .u8 x) := by simp [encB]
/-- The cells of a slice are these bytes. -/
def BIn (w : World) (a : Option Addr) (l : List Int) : Prop :=
  ∀ k, k < l.length → ∃ b off, a = some ⟨b, off, none⟩ ∧ w.cell? ⟨b, off + k, none⟩ = some (.int .u8 (l.getD k 0))
theorem BIn.below {w w' : World} {a : Option Addr} {l : List Int} (h : BIn w a l) (hb : Below w.heap.size w w') : BIn w' a l := fun k hk => by
  obtain ⟨b, off, rfl, hc⟩ := h k hk
  exact ⟨b, off, rfl, keep hc hb⟩
theorem bin_owns {w : World} {B g n c : Nat} {e : TypeId} {l : List Int} (h : w.ownsRow B e 1 (.slice (some ⟨g, 0, none⟩) n c) n (encB l)) : BIn w (some ⟨g, 0, none⟩) l := fun k hk => by
  have hl := h.1
  rw [encB_len] at hl
  obtain ⟨g', cap, ev, _, _, _, _, hc, _⟩ := owns_cells h (by omega)
  simp only [Value.slice.injEq, Option.some.injEq, Addr.mk.injEq, and_true, true_and] at ev
  obtain ⟨rfl, rfl⟩ := ev
  exact ⟨g, 0, rfl, by rw [Nat.zero_add]; exact hc k _ (encB_get hk)⟩
theorem getD_b {l : List Int} (h : ∀ x ∈ l, isB x) (k : Nat) : isB (l.getD k 0) := by
  rw [List.getD_eq_getElem?_getD]
  by_cases hk : k < l.length
  · rw [List.getElem?_eq_getElem hk]; exact h _ (List.getElem_mem hk)
  · rw [List.getElem?_eq_none (by omega)]; exact ⟨by decide, by decide⟩
theorem ret_u' {a b : Int} (h : a = b) : Ending.returned (.int .u32 a) = .returned (.int .u32 b) := by rw [h]
set_option maxRecDepth 100000 in
set_option maxHeartbeats 2000000 in
theorem read_any (mem : List Int) (a : Option Addr) (cap at0 many : Nat) (w : World) (hin : BIn w a mem) (hB : ∀ x ∈ mem, isB x) (hl : mem.length ≤ 1000000) (hat : at0 + many ≤ mem.length) :
    Calls Try.prog 68 #[.slice a mem.length cap, .int .i64 at0, .int .i64 many] w fun e w' => e = .returned (.int .u32 (rdF mem at0 many)) ∧ w = w' := by
  have HI := Lib.hid hin
  have HBy := Lib.hid (fun k => getD_b hB k)
  have HW := Lib.hid (fun d => rdD_w mem at0 many d)
  clear hin hB
  go_enter Try.func68, Try.ntmps68
  go_wp2_with fail
  go_loopw [7, 8] (fun n i wr => ∃ d j : Nat, d + j = many ∧ i = .int .i64 ((j : Int) - 1) ∧ n = .int .u32 (rdD mem at0 many d) ∧ w = wr) (fun _ i _ => (intOf i + 1).toNat)
  case atStart => exact ⟨0, many, by omega, by go_num, rfl, by trivial⟩
  case round =>
    obtain ⟨d, j, hdj, rfl, rfl, rfl⟩ := hrel
    by_cases hj0 : j = 0
    · subst hj0
      obtain rfl : d = many := by omega
      have hj : ¬ (0 : Int) ≤ ((0 : Nat) : Int) - 1 := by omega
      go_wp2_with fail
      go_ret
      exact ⟨ret_u' rfl, rfl⟩
    · obtain ⟨m, rfl⟩ : ∃ m, j = m + 1 := ⟨j - 1, by omega⟩
      have hjm : (((m + 1 : Nat) : Int) - 1) = (m : Int) := by omega
      rw [hjm]
      obtain ⟨b, off, rfl, hc⟩ := HI.out (at0 + m) (by omega)
      have hby := HBy.out (at0 + m)
      have hw := HW.out d
      have HN : Hid (rdD mem at0 many (d + 1) = bits .or .u32 (rdD mem at0 many d * 256 % 4294967296) (mem.getD (at0 + m) 0)) := Lib.hid (by
        show bits _ _ _ (mem.getD (at0 + (many - (d + 1))) 0) = _
        rw [show many - (d + 1) = m by omega])
      have hix : ((at0 : Int) + (m : Int)).toNat = at0 + m := by omega
      have hil : (at0 : Int) + (m : Int) < (mem.length : Int) := by omega
      have hin0 : (0 : Int) ≤ (at0 : Int) + (m : Int) := by omega
      obtain ⟨hw0, hw1⟩ := hw
      obtain ⟨hb0, hb1⟩ := hby
      generalize mem.getD (at0 + m) 0 = x at *
      generalize rdD mem at0 many d = n at *
      have hm0 : (0 : Int) ≤ (m : Int) := by omega
      go_wp2_with fail
      go_roundw
      case rel => exact ⟨d + 1, m, by omega, by go_num, by rw [HN.out], by trivial⟩
      case measure => simp [intOf]
set_option maxRecDepth 100000 in
set_option maxHeartbeats 2000000 in
theorem write_any (mem : List Int) (B g cap at0 many : Nat) (v : Int) (w : World) (ho : w.ownsRow B 5 1 (.slice (some ⟨g, 0, none⟩) mem.length cap) mem.length (encB mem)) (hl : mem.length ≤ 1000000) (hat : at0 + many ≤ mem.length) (h4 : many ≤ 4) (hv : isW v) :
    Calls Try.prog 67 #[.slice (some ⟨g, 0, none⟩) mem.length cap, .int .i64 at0, .int .i64 many, .int .u32 v] w fun e w' => e = .returned (.tuple #[]) ∧ w'.ownsRow B 5 1 (.slice (some ⟨g, 0, none⟩) mem.length cap) mem.length (encB (wrF mem at0 many v)) ∧ Save g w w' := by
  have HO := Lib.hid ho
  have HL := Lib.hid (fun i => wrD_len mem at0 v i)
  clear ho
  obtain ⟨hv0, hv1⟩ := hv
  generalize hml : mem.length = n at *
  have HMl := Lib.hid hml; clear hml
  go_enter Try.func67, Try.ntmps67
  go_wp2_with fail
  go_loopw [8] (fun i wr => ∃ k : Nat, k ≤ many ∧ i = .int .i64 k ∧ wr.ownsRow B 5 1 (.slice (some ⟨g, 0, none⟩) n cap) n (encB (wrD mem at0 v k)) ∧ Save g w wr) (fun i _ => many - (intOf i).toNat)
  case atStart => exact ⟨0, Nat.zero_le _, rfl, HO.out, Save.refl _ _⟩
  case round =>
    obtain ⟨k, hk, rfl, ho, hs⟩ := hrel
    by_cases hlt : k < many
    · obtain ⟨g', c', ev, _, _, _, _, hcs, hfz⟩ := owns_cells ho (by omega)
      simp only [Value.slice.injEq, Option.some.injEq, Addr.mk.injEq, and_true, true_and] at ev
      obtain ⟨rfl, rfl⟩ := ev
      have hlk := HL.out k
      have hcell := hcs (at0 + k) _ (encB_get (by rw [hlk]; omega))
      have hfr := hfz (at0 + k)
      have HO2 := Lib.hid ho; have HS := Lib.hid hs
      have HN : Hid (wrD mem at0 v (k + 1) = (wrD mem at0 v k).set (at0 + k) (v / 2 ^ (8 * k) % 256)) := Lib.hid rfl
      have hix : ((at0 : Int) + (k : Int)).toNat = at0 + k := by omega
      have hil : (at0 : Int) + (k : Int) < (n : Int) := by omega
      have hin0 : (0 : Int) ≤ (at0 : Int) + (k : Int) := by omega
      clear ho hs hcs hfz hlk
      generalize (wrD mem at0 v k).getD (at0 + k) 0 = old at *
      have hki : (k : Int) < (many : Int) := by omega
      go_wp2_with fail
      go_roundw
      case rel => exact ⟨k + 1, by omega, by go_num, by rw [HN.out, encB_set]; exact owns_set HO2.out _ _, HS.out.trans (Save.set _ _ _ _)⟩
      case measure => simp [intOf]; omega
    · obtain rfl : k = many := by omega
      have HO2 := Lib.hid ho; have HS := Lib.hid hs
      clear ho hs
      go_wp2_with fail
      go_end0
      exact ⟨rfl, HO2.out, HS.out⟩
end Go.Proofs.Ytjfpaelmcepidaa.PK
