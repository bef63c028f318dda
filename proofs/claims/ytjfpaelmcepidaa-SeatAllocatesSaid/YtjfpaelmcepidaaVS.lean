/- Both Lives at any program. -/
import Derived.Test.YtjfpaelmcepidaaVF
namespace Go.Proofs.Ytjfpaelmcepidaa.PK
open Go.RowKit

/-- What both sides answer, in one shape. -/
def LvIs (regs : Int) (ls : List (List Cd)) (L : List (List Int)) : Prop := (progErrW regs ls = 0 → LiveOf ls regs.toNat L) ∧ (progErrW regs ls ≠ 0 → L = [])
theorem LvIs.unique {regs : Int} {ls : List (List Cd)} {L L' : List (List Int)} (h : LvIs regs ls L) (h' : LvIs regs ls L') : L = L' := by
  by_cases h0 : progErrW regs ls = 0
  · exact (h.1 h0).unique (h'.1 h0)
  · rw [h.2 h0, h'.2 h0]
theorem LvIs.small {regs : Int} {ls : List (List Cd)} {L : List (List Int)} (h : LvIs regs ls L) : L.length ≤ 400 ∧ ∀ k, (L.getD k []).length ≤ 200 := by
  by_cases h0 : progErrW regs ls = 0
  · obtain ⟨hbig, _, _⟩ := prog_partsW h0
    have hb2 : 0 ≤ regs ∧ regs ≤ 200 ∧ 1 ≤ ls.length ∧ ls.length ≤ 400 := by unfold tooBigW at hbig; omega
    have h1 := (h.1 h0).len
    exact ⟨by omega, fun k => Nat.le_trans ((h.1 h0).row k) (by omega)⟩
  · rw [h.2 h0]; exact ⟨Nat.zero_le _, fun k => by simp⟩
def LvShape (regs : Int) (ls : List (List Cd)) (w : World) (e : Ending) (w' : World) : Prop :=
  ∃ a cap L, e = .returned (.tuple #[.slice a L.length cap, .int .i64 (progErrW regs ls)]) ∧ RowsIn w' a L ∧ LvIs regs ls L ∧ Below w.heap.size w w'
theorem LvPost.shape {regs : Int} {ls : List (List Cd)} {w w' : World} {e : Ending} (h : LvPost regs ls w e w') : LvShape regs ls w e w' := by
  obtain ⟨h1, h2⟩ := h
  by_cases h0 : progErrW regs ls = 0
  · rw [if_pos h0] at h1
    obtain ⟨v, L, rfl, hL, hr⟩ := h1
    obtain ⟨a, cap, rfl, hin⟩ := hr.rows
    exact ⟨a, cap, L, by rw [h0], hin, ⟨fun _ => hL, fun h => absurd h0 h⟩, h2⟩
  · rw [if_neg h0] at h1
    exact ⟨none, 0, [], h1, fun _ hk => absurd hk (Nat.not_lt_zero _), ⟨fun h => absurd h h0, fun _ => rfl⟩, h2⟩
set_option maxRecDepth 100000 in
set_option maxHeartbeats 2000000 in
theorem sLive_bad (regs : Int) (ls : List (List Cd)) (bl : Option Addr) (cap : Nat) (w : World) (hin : BlkIn w bl ls) (hv : progErrW regs ls ≠ 0) (hl : ls.length ≤ 500) (hlm : ∀ k, k < ls.length → (atB ls k).length ≤ 9223372036854775807) :
    Calls Try.prog 23 #[.agg #[.int .i64 regs, .slice bl ls.length cap]] w (LvPost regs ls w) := by
  have HV := Lib.hid (fun u (h : BlkIn u bl ls) => ValidateW_any regs ls bl cap u h (by omega) hlm)
  have HPost : Hid (∀ W', Below w.heap.size w W' → LvPost regs ls w (.returned (.tuple #[.slice none 0 0, .int .i64 (progErrW regs ls)])) W') := Lib.hid (fun W' h => ⟨by rw [if_neg hv], h⟩)
  have HI := Lib.hid hin
  clear hin hlm
  generalize progErrW regs ls = pe at *
  go_enter Try.func23, Try.ntmps23
  go_upto_region 1 with (fail)
  have HB0 : Hid (Below w.heap.size w (w.alloc (.cells #[.int .i64 regs, .slice bl ls.length cap] 24))) := Lib.hid ((Below.refl _ _).alloc (Nat.le_refl _) _)
  have hp0 : (w.alloc (.cells #[.int .i64 regs, .slice bl ls.length cap] 24)).cell? ⟨w.heap.size, 0, none⟩ = some (.int .i64 regs) := by simp [go_sem]
  have hp1 : (w.alloc (.cells #[.int .i64 regs, .slice bl ls.length cap] 24)).cell? ⟨w.heap.size, 1, none⟩ = some (.slice bl ls.length cap) := by simp [go_sem]
  generalize w.alloc (.cells #[.int .i64 regs, .slice bl ls.length cap] 24) = w0 at *
  go_wp2_with fail
  refine (HV.out _ (HI.out.below HB0.out)).mono ?_; rintro e w1 ⟨rfl, hb1⟩
  have HF := Lib.hid (HPost.out _ (HB0.out.trans (hb1.mono HB0.out.size)))
  clear hb1 hp0 hp1
  go_wp2_with fail
  go_ret2
  exact HF.out
set_option maxRecDepth 100000 in
set_option maxHeartbeats 2000000 in
theorem rLive_bad (regs : Int) (ls : List (List Cd)) (bl : Option Addr) (cap : Nat) (w : World) (hin : BlkIn w bl ls) (hv : progErrW regs ls ≠ 0) (hl : ls.length ≤ 500) (hlm : ∀ k, k < ls.length → (atB ls k).length ≤ 9223372036854775807) :
    Calls Try.prog 35 #[.agg #[.int .i64 regs, .slice bl ls.length cap]] w (LvPost regs ls w) := by
  have HV := Lib.hid (fun u (h : BlkIn u bl ls) => rValidateW_any regs ls bl cap u h (by omega) hlm)
  have HPost : Hid (∀ W', Below w.heap.size w W' → LvPost regs ls w (.returned (.tuple #[.slice none 0 0, .int .i64 (progErrW regs ls)])) W') := Lib.hid (fun W' h => ⟨by rw [if_neg hv], h⟩)
  have HI := Lib.hid hin
  clear hin hlm
  generalize progErrW regs ls = pe at *
  go_enter Try.func35, Try.ntmps35
  go_upto_region 1 with (fail)
  have HB0 : Hid (Below w.heap.size w (w.alloc (.cells #[.int .i64 regs, .slice bl ls.length cap] 24))) := Lib.hid ((Below.refl _ _).alloc (Nat.le_refl _) _)
  have hp0 : (w.alloc (.cells #[.int .i64 regs, .slice bl ls.length cap] 24)).cell? ⟨w.heap.size, 0, none⟩ = some (.int .i64 regs) := by simp [go_sem]
  have hp1 : (w.alloc (.cells #[.int .i64 regs, .slice bl ls.length cap] 24)).cell? ⟨w.heap.size, 1, none⟩ = some (.slice bl ls.length cap) := by simp [go_sem]
  generalize w.alloc (.cells #[.int .i64 regs, .slice bl ls.length cap] 24) = w0 at *
  go_wp2_with fail
  refine (HV.out _ (HI.out.below HB0.out)).mono ?_; rintro e w1 ⟨rfl, hb1⟩
  have HF := Lib.hid (HPost.out _ (HB0.out.trans (hb1.mono HB0.out.size)))
  clear hb1 hp0 hp1
  go_wp2_with fail
  go_ret2
  exact HF.out
theorem sLive_all (regs : Int) (ls : List (List Cd)) (bl : Option Addr) (cap : Nat) (hl : ls.length ≤ 500) (hlm : ∀ k, k < ls.length → (atB ls k).length ≤ 9223372036854775807) (w : World) (hin : BlkIn w bl ls) :
    Calls Try.prog 23 #[.agg #[.int .i64 regs, .slice bl ls.length cap]] w (LvShape regs ls w) := by
  by_cases hv : progErrW regs ls = 0
  · exact (sLive_ok regs ls bl cap w hin hv hlm).mono fun _ _ h => h.shape
  · exact (sLive_bad regs ls bl cap w hin hv hl hlm).mono fun _ _ h => h.shape
theorem rLive_all (regs : Int) (ls : List (List Cd)) (bl : Option Addr) (cap : Nat) (hl : ls.length ≤ 500) (hlm : ∀ k, k < ls.length → (atB ls k).length ≤ 9223372036854775807) (w : World) (hin : BlkIn w bl ls) :
    Calls Try.prog 35 #[.agg #[.int .i64 regs, .slice bl ls.length cap]] w (LvShape regs ls w) := by
  by_cases hv : progErrW regs ls = 0
  · exact (rLive_ok regs ls bl cap w hin hv hlm).mono fun _ _ h => h.shape
  · exact (rLive_bad regs ls bl cap w hin hv hl hlm).mono fun _ _ h => h.shape
end Go.Proofs.Ytjfpaelmcepidaa.PK
