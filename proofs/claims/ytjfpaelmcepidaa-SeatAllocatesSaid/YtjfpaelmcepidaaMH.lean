/- A memory of words: the walks of the statements' Memory and Apart. -/
import Derived.Test.YtjfpaelmcepidaaMA
import Derived.Test.YtjfpaelmcepidaaKZ
import Derived.Test.YtjfpaelmcepidaaMF
import Derived.Deep.OwnRows
namespace Go.Proofs.Ytjfpaelmcepidaa.PK
open Go.RowKit

/-- The first k bytes of a word, written. -/
def memI (m : List Int) (at0 : Nat) (x : Int) : Nat → List Int
  | 0 => m
  | k + 1 => (memI m at0 x k).set (at0 + k) (bits .and .u32 (x / 2 ^ (8 * k)) 255 % 256)
def atM (i : Nat) : Nat := if 4 ≤ i then 512 + 4 * (i - 4) else 272 + 4 * i
/-- A memory that begins, at the parameters and the slots, with the first i words. -/
def memO (words : List Int) (n : Nat) : Nat → List Int
  | 0 => List.replicate n 0
  | i + 1 => memI (memO words n i) (atM i) (words.getD i 0) 4
theorem memI_len (m : List Int) (at0 : Nat) (x : Int) : ∀ k, (memI m at0 x k).length = m.length
  | 0 => rfl
  | k + 1 => by
    show (List.set _ _ _).length = _
    rw [List.length_set, memI_len m at0 x k]
theorem memI_b {m : List Int} {at0 : Nat} {x : Int} (h : ∀ y ∈ m, isB y) : ∀ k, ∀ y ∈ memI m at0 x k, isB y
  | 0 => h
  | k + 1 => fun y hy => by
    rcases List.mem_or_eq_of_mem_set hy with h1 | rfl
    · exact memI_b h k y h1
    · exact ⟨Int.emod_nonneg _ (by decide), Int.emod_lt_of_pos _ (by decide)⟩
theorem memO_len (words : List Int) (n : Nat) : ∀ i, (memO words n i).length = n
  | 0 => List.length_replicate
  | i + 1 => by
    show (memI _ _ _ 4).length = _
    rw [memI_len, memO_len words n i]
theorem memO_b (words : List Int) (n : Nat) : ∀ i, ∀ y ∈ memO words n i, isB y
  | 0 => fun y hy => by
    obtain ⟨_, rfl⟩ := List.mem_replicate.1 hy
    exact ⟨by decide, by decide⟩
  | i + 1 => memI_b (memO_b words n i) 4
def memW (words : List Int) : List Int := memO words 32768 (min words.length 12)
theorem memW_len (words : List Int) : (memW words).length = 32768 := memO_len _ _ _
theorem memW_b (words : List Int) : ∀ y ∈ memW words, isB y := memO_b _ _ _
theorem infoByte : (Try.prog.info? 5).map (fun i => (i.zero, i.size, i.bytes)) = some (some (.int .u8 0), 1, 1) := by kernel_rfl
theorem bytes_made (w : World) (n : Nat) (hn : n ≤ maxLen) : (w.alloc (.cells (madeCells #[.int .u8 0] n) 5)).ownsRow w.heap.size 5 1 (.slice (some ⟨w.heap.size, 0, none⟩) n n) n (encB (List.replicate n 0)) := by
  have e : (madeCells #[.int .u8 0] n) = (encB (List.replicate n 0)).toArray := by
    rw [valArr_made]
    unfold encB valArr
    apply Array.ext
    · simp
    · intro i h1 h2; simp
  refine ⟨by rw [encB_len, List.length_replicate, Nat.mul_one], .inr ⟨w.heap.size, n, _, rfl, Nat.le_refl _, heap_alloc_new w _, Nat.le_refl _, hn, ?_, ?_⟩⟩
  · rw [e]; simp [encB]
  · rw [e, List.take_of_length_le (by simp [encB])]
set_option maxRecDepth 100000 in
set_option maxHeartbeats 4000000 in
theorem Memory_any (words : List Int) (a : Option Addr) (cap : Nat) (w : World) (hin : WsIn w a words) (hw : ∀ k, k < words.length → isW (words.getD k 0)) (hl : words.length ≤ maxLen) :
    Calls Try.prog 10 #[.slice a words.length cap] w fun e w' => (∃ g, e = .returned (.slice (some ⟨g, 0, none⟩) 32768 32768) ∧ w'.ownsRow w.heap.size 5 1 (.slice (some ⟨g, 0, none⟩) 32768 32768) 32768 (encB (memW words))) ∧ Below w.heap.size w w' := by
  have HI := Lib.hid hin; have HW := Lib.hid hw
  unfold maxLen at hl
  have hmk := run_make_row' (P := Try.prog) 34 5 (.int .u8 0) 1 Try.underlying34 infoByte rfl .i64 .i64 32768 (by omega) (by omega)
  rw [show ((32768 : Nat) : Int) = 32768 from rfl] at hmk
  have HM0 := Lib.hid (bytes_made w 32768 (by unfold maxLen; omega))
  have HMw : Hid (memW words = memO words 32768 (min words.length 12)) := Lib.hid rfl
  have HLn := Lib.hid (fun i => memO_len words 32768 i)
  clear hin hw
  go_enter Try.func10, Try.ntmps10
  go_wp2_with fail
  have hal := (Below.refl w.heap.size w).alloc (Nat.le_refl _) (.cells (madeCells #[.int .u8 0] 32768) 5)
  have hsz : (w.alloc (.cells (madeCells #[.int .u8 0] 32768) 5)).heap.size = w.heap.size + 1 := by simp
  clear hmk
  generalize w.alloc (.cells (madeCells #[.int .u8 0] 32768) 5) = w2 at *
  generalize hq : w.heap.size = q at *
  go_loopw [4] (fun i wr => ∃ k : Nat, k ≤ words.length ∧ k ≤ 12 ∧ i = .int .i64 k ∧ wr.ownsRow q 5 1 (.slice (some ⟨q, 0, none⟩) 32768 32768) 32768 (encB (memO words 32768 k)) ∧ Save q w2 wr) (fun i _ => 12 - (intOf i).toNat)
  case atStart => exact ⟨0, Nat.zero_le _, Nat.zero_le _, rfl, HM0.out, Save.refl _ _⟩
  case round =>
    obtain ⟨k, hk, hk12, rfl, ho, hs⟩ := hrel
    have HO := Lib.hid ho; have HS := Lib.hid hs
    have hbw := hal.trans (hs.below (B := q) (Nat.le_refl _) (by omega))
    have HBw := Lib.hid hbw
    clear ho hs hbw
    by_cases hlt : k < words.length
    · have hki : (k : Int) < (words.length : Int) := by omega
      by_cases h12 : k < 12
      · have h12i : (k : Int) < 12 := by omega
        have HNx : Hid (memO words 32768 (k + 1) = memI (memO words 32768 k) (atM k) (words.getD k 0) 4) := Lib.hid rfl
        have hlen := HLn.out k
        obtain ⟨b, off, rfl, hc⟩ := HI.out.below (by rw [hq]; exact hal) k hlt
        have hbq : b ≠ q := by
          obtain ⟨b', off', e, hc'⟩ := HI.out k hlt
          cases e
          have : b < w.heap.size := block_lt_of_cell hc'
          omega
        have hww := HW.out k hlt
        generalize words.getD k 0 = x at *
        generalize hm1 : memO words 32768 (k + 1) = M1 at *
        have HM1 := Lib.hid hm1; clear hm1
        generalize memO words 32768 k = M at *
        obtain ⟨hw0, hw1⟩ := hww
        have HMl := Lib.hid hlen; clear hlen
        have hk0 : (0 : Int) ≤ (k : Int) := by omega
        by_cases h4 : 4 ≤ k
        · have h4i : (4 : Int) ≤ (k : Int) := by omega
          go_wp2_with fail
          rw [show (512 : Int) + 4 * ((k : Int) - 4) = ((512 + 4 * (k - 4) : Nat) : Int) by omega]
          have HAt : Hid (512 + 4 * (k - 4) = atM k) := Lib.hid (by unfold atM; rw [if_pos h4])
          have hat0 : 512 + 4 * (k - 4) + 4 ≤ 1000 := by omega
          generalize 512 + 4 * (k - 4) = at0 at *
          go_loopw [6] (fun i wr => ∃ j : Nat, j ≤ 4 ∧ i = .int .i64 j ∧ wr.ownsRow q 5 1 (.slice (some ⟨q, 0, none⟩) 32768 32768) 32768 (encB (memI M at0 x j)) ∧ Save q w2 wr) (fun i _ => 4 - (intOf i).toNat)
          case atStart => exact ⟨0, Nat.zero_le _, rfl, HO.out, HS.out⟩
          case round =>
            obtain ⟨j, hj, rfl, ho, hs⟩ := hrel
            by_cases hj4 : j < 4
            · obtain ⟨g', c', ev, _, _, _, _, hcs, hfz⟩ := owns_cells ho (by omega)
              simp only [Value.slice.injEq, Option.some.injEq, Addr.mk.injEq, and_true, true_and] at ev
              obtain ⟨rfl, rfl⟩ := ev
              have hlk : (memI M at0 x j).length = 32768 := by rw [memI_len]; exact HMl.out
              have hcell := hcs (at0 + j) _ (encB_get (by rw [hlk]; omega))
              have hfr := hfz (at0 + j)
              have hcx := hs.cell hbq hc
              have HO2 := Lib.hid ho; have HS2 := Lib.hid hs
              have HN : Hid (memI M at0 x (j + 1) = (memI M at0 x j).set (at0 + j) (bits .and .u32 (x / 2 ^ (8 * j)) 255 % 256)) := Lib.hid rfl
              have hix : ((at0 : Int) + (j : Int)).toNat = at0 + j := by omega
              have hil : (at0 : Int) + (j : Int) < 32768 := by omega
              have hin0 : (0 : Int) ≤ (at0 : Int) + (j : Int) := by omega
              have hji : (j : Int) < 4 := by omega
              have hj0 : (0 : Int) ≤ (j : Int) := by omega
              clear ho hs hcs hfz hlk
              generalize (memI M at0 x j).getD (at0 + j) 0 = old at *
              go_wp2_with fail
              go_roundw
              case rel => exact ⟨j + 1, by omega, by go_num, by rw [HN.out, encB_set]; exact owns_set HO2.out _ _, HS2.out.trans (Save.set _ _ _ _)⟩
              case measure => simp [intOf]; omega
            · obtain rfl : j = 4 := by omega
              have HO2 := Lib.hid ho; have HS2 := Lib.hid hs
              clear ho hs
              go_wp2_with fail
              go_roundw
              case rel => exact ⟨k + 1, by omega, by omega, by go_num, by rw [HM1.out, HNx.out, ← HAt.out]; exact HO2.out, HS2.out⟩
              case measure => simp [intOf]; omega
        · have h4i : ¬ (4 : Int) ≤ (k : Int) := by omega
          go_wp2_with fail
          rw [show (272 : Int) + 4 * (k : Int) = ((272 + 4 * k : Nat) : Int) by omega]
          have HAt : Hid (272 + 4 * k = atM k) := Lib.hid (by unfold atM; rw [if_neg h4])
          have hat0 : 272 + 4 * k + 4 ≤ 1000 := by omega
          generalize 272 + 4 * k = at0 at *
          go_loopw [6] (fun i wr => ∃ j : Nat, j ≤ 4 ∧ i = .int .i64 j ∧ wr.ownsRow q 5 1 (.slice (some ⟨q, 0, none⟩) 32768 32768) 32768 (encB (memI M at0 x j)) ∧ Save q w2 wr) (fun i _ => 4 - (intOf i).toNat)
          case atStart => exact ⟨0, Nat.zero_le _, rfl, HO.out, HS.out⟩
          case round =>
            obtain ⟨j, hj, rfl, ho, hs⟩ := hrel
            by_cases hj4 : j < 4
            · obtain ⟨g', c', ev, _, _, _, _, hcs, hfz⟩ := owns_cells ho (by omega)
              simp only [Value.slice.injEq, Option.some.injEq, Addr.mk.injEq, and_true, true_and] at ev
              obtain ⟨rfl, rfl⟩ := ev
              have hlk : (memI M at0 x j).length = 32768 := by rw [memI_len]; exact HMl.out
              have hcell := hcs (at0 + j) _ (encB_get (by rw [hlk]; omega))
              have hfr := hfz (at0 + j)
              have hcx := hs.cell hbq hc
              have HO2 := Lib.hid ho; have HS2 := Lib.hid hs
              have HN : Hid (memI M at0 x (j + 1) = (memI M at0 x j).set (at0 + j) (bits .and .u32 (x / 2 ^ (8 * j)) 255 % 256)) := Lib.hid rfl
              have hix : ((at0 : Int) + (j : Int)).toNat = at0 + j := by omega
              have hil : (at0 : Int) + (j : Int) < 32768 := by omega
              have hin0 : (0 : Int) ≤ (at0 : Int) + (j : Int) := by omega
              have hji : (j : Int) < 4 := by omega
              have hj0 : (0 : Int) ≤ (j : Int) := by omega
              clear ho hs hcs hfz hlk
              generalize (memI M at0 x j).getD (at0 + j) 0 = old at *
              go_wp2_with fail
              go_roundw
              case rel => exact ⟨j + 1, by omega, by go_num, by rw [HN.out, encB_set]; exact owns_set HO2.out _ _, HS2.out.trans (Save.set _ _ _ _)⟩
              case measure => simp [intOf]; omega
            · obtain rfl : j = 4 := by omega
              have HO2 := Lib.hid ho; have HS2 := Lib.hid hs
              clear ho hs
              go_wp2_with fail
              go_roundw
              case rel => exact ⟨k + 1, by omega, by omega, by go_num, by rw [HM1.out, HNx.out, ← HAt.out]; exact HO2.out, HS2.out⟩
              case measure => simp [intOf]; omega
      · have h12i : ¬ (k : Int) < 12 := by omega
        have HE : Hid (memW words = memO words 32768 k) := Lib.hid (by rw [HMw.out, show min words.length 12 = k by omega])
        go_wp2_with fail
        go_ret
        exact ⟨⟨q, rfl, by rw [HE.out]; first | exact HO.out | (rw [hq]; exact HO.out)⟩, by first | exact HBw.out | (rw [hq]; exact HBw.out)⟩
    · obtain rfl : k = words.length := by omega
      have HE : Hid (memW words = memO words 32768 words.length) := Lib.hid (by rw [HMw.out, show min words.length 12 = words.length by omega])
      go_wp2_with fail
      go_ret
      exact ⟨⟨q, rfl, by rw [HE.out]; first | exact HO.out | (rw [hq]; exact HO.out)⟩, by first | exact HBw.out | (rw [hq]; exact HBw.out)⟩
end Go.Proofs.Ytjfpaelmcepidaa.PK
