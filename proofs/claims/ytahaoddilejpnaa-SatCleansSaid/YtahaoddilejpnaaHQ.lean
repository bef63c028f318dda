/- Models of the program. -/
import Derived.Test.YtahaoddilejpnaaHN
namespace Go.Proofs.Ytahaoddilejpnaa
open Go.RowKit

theorem Try.infoBool : (Try.prog.info? 4).map (fun i => (i.zero, i.size, i.bytes)) = some (some (.bool false), 1, 1) := by kernel_rfl
def boolArr (n : Nat) (f : Nat → Bool) : Array Value := (Array.range n).map fun i => .bool (f i)
theorem boolArr_get (n : Nat) (f : Nat → Bool) (k : Nat) (h : k < n) : (boolArr n f)[k]? = some (.bool (f k)) := by simp [boolArr, h]
theorem boolArr_set (n : Nat) (f : Nat → Bool) (v : Nat) (x : Bool) : (boolArr n f).setIfInBounds v (.bool x) = boolArr n (updF f v x) := by
  apply Array.ext
  · simp [boolArr]
  · intro i h1 h2
    have hi : i < n := by simpa [boolArr] using h2
    rw [Array.getElem_setIfInBounds (by simpa [boolArr] using hi)]
    by_cases c : v = i
    · subst c; simp [boolArr, updF]
    · have c' : ¬ i = v := fun e => c e.symm
      simp [boolArr, updF, c, c']
theorem boolArr_made (n : Nat) : madeCells #[.bool false] n = boolArr n (fun _ => false) := by
  unfold madeCells boolArr
  congr 1
  funext j
  simp [Nat.mod_one]
/-- A block that is a row of n truth values. -/
def BRow (w : World) (q n : Nat) (f : Nat → Bool) : Prop := w.heap[q]? = some (.cells (boolArr n f) 4 (0, 0))
theorem BRow.free {w : World} {q n : Nat} {f : Nat → Bool} (h : BRow w q n f) (k : Nat) : w.frozen? ⟨q, k, none⟩ = false := frozen_of_row w q k _ _ h
theorem BRow.cell {w : World} {q n : Nat} {f : Nat → Bool} (h : BRow w q n f) {k : Nat} (hk : k < n) : w.cell? ⟨q, k, none⟩ = some (.bool (f k)) := by
  rw [cell_of_row w q k _ _ _ h]; exact boolArr_get n f k hk
theorem BRow.lt {w : World} {q n : Nat} {f : Nat → Bool} (h : BRow w q n f) : q < w.heap.size := lt_of_block h
theorem BRow.set {w : World} {q n : Nat} {f : Nat → Bool} (h : BRow w q n f) (v : Nat) (x : Bool) : BRow (w.setCell ⟨q, v, none⟩ (.bool x)) q n (updF f v x) := by
  unfold BRow
  rw [heap_setCell_same w q v _ _ _ h, boolArr_set n f v x]
theorem BRow.below {w w' : World} {q n : Nat} {f : Nat → Bool} (h : BRow w q n f) (hb : Below w.heap.size w w') : BRow w' q n f := by
  unfold BRow; rw [hb.block q h.lt]; exact h
theorem BRow.bools {w : World} {q n : Nat} {f : Nat → Bool} (h : BRow w q n f) {m : List Bool} (hm : m.length = n) (he : ∀ j, j < n → m.getD j false = f j) : BoolsIn w (some ⟨q, 0, none⟩) m := fun k hk =>
  ⟨q, 0, rfl, by rw [Nat.zero_add, he k (by omega)]; exact h.cell (by omega)⟩
theorem below_set {B q j : Nat} {w w' : World} {x : Value} (h : Below B w w') (hq : B ≤ q) : Below B w (w'.setCell ⟨q, j, none⟩ x) :=
  ⟨h.os, h.tape, h.output, by have := h.size; simpa [World.setCell] using this, fun k hk => by rw [Below.heap_setCell _ _ _ _ (show k ≠ q by omega)]; exact h.block k hk⟩
set_option maxRecDepth 100000 in
set_option maxHeartbeats 4000000 in
theorem sModels_any (n : Int) (g : List (List Int)) (a : Option Addr) (cap : Nat) (w : World) (hin : RowsIn w a g) (hs : Short g) :
    Calls Try.prog 22 #[.int .i64 n, .slice a g.length cap] w fun e w' => e = .returned (.tuple #[.int .i64 (modN n g : Nat), .int .i64 (modE n g)]) ∧ Below w.heap.size w w' := by
  have HV := Lib.hid (sValidate_any n g a cap w hin hs)
  have hE1 : modN n g = if validE n g = 0 then (if n ≤ 12 then cntTo n.toNat g (2 ^ n.toNat) else 0) else 0 := rfl
  have hE2 : modE n g = if validE n g = 0 then (if n ≤ 12 then 0 else 3) else validE n g := rfl
  by_cases he : validE n g = 0
  rotate_left
  · have he' : (validE n g != 0) = true := by simpa using he
    rw [hE1, hE2, if_neg he, if_neg he]
    clear hin hE1 hE2 hs
    generalize validE n g = e at *
    generalize g.length = p at *
    go_enter Try.func22, Try.ntmps22
    go_wp2_with fail
    refine HV.out.mono ?_; rintro e w2 ⟨rfl, hb2⟩
    go_wp2_with fail
    go_ret2
    exact ⟨rfl, hb2⟩
  by_cases hn : n ≤ 12
  rotate_left
  · rw [hE1, hE2, if_pos he, if_pos he, if_neg hn, if_neg hn]
    rw [he] at HV
    have hn' : 12 < n := by omega
    clear hin hE1 hE2 hs
    generalize g.length = p at *
    go_enter Try.func22, Try.ntmps22
    go_wp2_with fail
    refine HV.out.mono ?_; rintro e w2 ⟨rfl, hb2⟩
    go_wp2_with fail
    go_ret2
    exact ⟨rfl, hb2⟩
  have hok := validE_ok he
  rw [hE1, hE2, if_pos he, if_pos he, if_pos hn, if_pos hn]
  rw [he] at HV
  obtain ⟨N, rfl⟩ : ∃ N : Nat, n = N := ⟨n.toNat, by omega⟩
  rw [Int.toNat_natCast]
  have hN : N ≤ 12 := by omega
  have HH : Hid (∀ b W q, Below w.heap.size w W → BoolsIn W (some ⟨q, 0, none⟩) (bitsM N b) → Calls Try.prog 39 #[.slice a g.length cap, .slice (some ⟨q, 0, none⟩) N N] W fun e w' => e = .returned (.bool (holdsB g (bitsM N b))) ∧ Below W.heap.size W w') :=
    Lib.hid fun b W q hb hm => by
      have := holds_any g (bitsM N b) a (some ⟨q, 0, none⟩) cap N W (hin.below hb) hs hm (by rw [bitsM_len]; omega) (by rw [bitsM_len]; exact hok.2.2)
      rwa [bitsM_len] at this
  have hwp := wrap_pow hN
  have hpl := pow_le hN
  generalize hP : 2 ^ N = P at *
  have HPw := Lib.hid hP; clear hP
  clear hin hs hE1 hE2 he hok
  have hmk : ∀ w0 : World, (Instr.makeSlice 25 (.int .i64 (N : Int)) (.int .i64 (N : Int))).run Try.prog w0 = .ok (.slice (some ⟨w0.heap.size, 0, none⟩) N N) (w0.alloc (.cells (madeCells #[.bool false] N) 4)) := fun w0 => run_make_row' (P := Try.prog) 25 4 (.bool false) 1 Try.underlying25 Try.infoBool rfl .i64 .i64 N (by omega) (by omega) w0
  generalize hgl : g.length = p at *
  clear hgl
  go_enter Try.func22, Try.ntmps22
  go_wp2_with fail
  refine HV.out.mono ?_; rintro e w2 ⟨rfl, hb2⟩
  have hB3 : Below w.heap.size w (w2.alloc (.cells (madeCells #[.bool false] N) 4)) := hb2.alloc hb2.size _
  have hR3 : BRow (w2.alloc (.cells (madeCells #[.bool false] N) 4)) w2.heap.size N (fun _ => false) := by
    unfold BRow
    rw [heap_at _ _ _ rfl, boolArr_made]
  have hq := hb2.size
  have HB3 := Lib.hid hB3; have HR3 := Lib.hid hR3; have HQ := Lib.hid hq
  clear hb2 hB3 hR3
  go_wp2_with fail
  generalize w2.alloc (.cells (madeCells #[.bool false] N) 4) = w3 at *
  generalize w2.heap.size = q at *
  rw [hwp]
  go_loopw [8, 23] (fun c i wr => ∃ b : Nat, b ≤ P ∧ i = .int .i64 b ∧ Below w.heap.size w wr ∧ c = .int .i64 (cntTo N g b : Nat) ∧ ∃ f, BRow wr q N f) (fun _ i _ => P - (intOf i).toNat)
  case atStart => exact ⟨0, Nat.zero_le _, rfl, HB3.out, rfl, _, HR3.out⟩
  case round =>
    obtain ⟨b, hb, rfl, hbw, rfl, f, hrow⟩ := hrel
    have HS := Lib.hid (cntTo_succ N g b)
    have hcl := cntTo_le N g b
    generalize hc1 : cntTo N g (b + 1) = c1 at *
    have HC1 := Lib.hid hc1; clear hc1
    have HBw := Lib.hid hbw; have HRow := Lib.hid hrow; clear hbw hrow
    by_cases hbp : b < P
    · generalize cntTo N g b = c at *
      have hbi : (b : Int) < (P : Int) := by omega
      go_wp2_with fail
      go_loopw [28] (fun i wr => ∃ k : Nat, k ≤ N ∧ i = .int .i64 k ∧ Below w.heap.size w wr ∧ ∃ f, BRow wr q N f ∧ ∀ j, j < k → f j = b.testBit j) (fun i _ => N - (intOf i).toNat)
      case atStart => exact ⟨0, Nat.zero_le _, rfl, HBw.out, f, HRow.out, fun j hj => absurd hj (Nat.not_lt_zero _)⟩
      case round =>
        obtain ⟨k, hk, rfl, hbw, f, hrow, hf⟩ := hrel
        have HBw := Lib.hid hbw; have HRow := Lib.hid hrow; have HF := Lib.hid hf; clear hbw hrow hf
        by_cases hkn : k < N
        · have hc := HRow.out.cell hkn
          have hfr := HRow.out.free k
          have hki : (k : Int) < (N : Int) := by omega
          generalize f k = fk at *
          go_wp2_with fail
          go_roundw
          case rel =>
            rw [bit_up b k (by omega)]
            exact ⟨k + 1, by omega, by go_num, below_set HBw.out HQ.out, updF f k (b.testBit k), HRow.out.set k (b.testBit k), fun j hj => by
              by_cases e : j = k
              · subst e; rw [updF_at]
              · rw [updF_ne e]; exact HF.out j (by omega)⟩
          case measure => simp [intOf]; omega
        · have hkN : k = N := by omega
          have HHb := Lib.hid (HH.out b wr q HBw.out (HRow.out.bools (bitsM_len N b) fun j hj => by rw [bitsM_get hj, HF.out j (by omega)]))
          generalize holdsB g (bitsM N b) = x at *
          go_wp2_with fail
          refine HHb.out.mono ?_; rintro e w5 ⟨rfl, hb5⟩
          have HB5 := Lib.hid (HBw.out.trans (hb5.mono HBw.out.size)); have HR5 := Lib.hid (HRow.out.below hb5)
          clear hb5
          cases x
          · go_wp2_with fail
            go_roundw
            case rel => exact ⟨b + 1, by omega, by go_num, HB5.out, by rw [HC1.out, HS.out]; simp, f, HR5.out⟩
            case measure => simp [intOf]; omega
          · have hcP : (c : Int) ≤ 4096 := by omega
            go_wp2_with fail
            go_roundw
            case rel => exact ⟨b + 1, by omega, by go_num, HB5.out, by rw [HC1.out, HS.out]; simp, f, HR5.out⟩
            case measure => simp [intOf]; omega
    · have hbP : b = P := by omega
      have HR2 : Hid (cntTo N g P = cntTo N g b) := Lib.hid (by rw [hbP])
      have hbi : ¬ (b : Int) < (P : Int) := by omega
      go_wp2_with fail
      go_ret2
      exact ⟨by rw [HR2.out]; rfl, HBw.out⟩
end Go.Proofs.Ytahaoddilejpnaa
