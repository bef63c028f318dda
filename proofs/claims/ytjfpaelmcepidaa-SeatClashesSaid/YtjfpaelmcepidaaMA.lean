/- The walks of the specification's helpers of a machine. -/
import Derived.Test.YtjfpaelmcepidaaM0
import Derived.Test.YtjfpaelmcepidaaKQ
namespace Go.Proofs.Ytjfpaelmcepidaa.PK
open Go.RowKit

theorem one_any (b : Bool) (w : World) : Calls Try.prog 94 #[.bool b] w fun e w' => e = .returned (.int .u32 (if b = true then 1 else 0)) ∧ w = w' := by
  cases b
  · go_enter Try.func94, Try.ntmps94
    go_wp2_with fail
    go_ret
    exact ⟨rfl, rfl⟩
  · go_enter Try.func94, Try.ntmps94
    go_wp2_with fail
    go_ret
    exact ⟨rfl, rfl⟩
theorem ret_u {a b : Int} (h : a = b) : Ending.returned (.int .u32 a) = .returned (.int .u32 b) := by rw [h]

theorem res2 (a b : Int) (ha : isW a) (hb : isW b) (w : World) : Calls Try.prog 70 #[.int .i64 2, .int .u32 a, .int .u32 b] w fun e w' => e = .returned (.int .u32 (resF 2 a b)) ∧ w = w' := by
  obtain ⟨ha0, ha1⟩ := ha
  obtain ⟨hb0, hb1⟩ := hb
  go_enter Try.func70, Try.ntmps70
  go_wp2_with fail
  go_ret
  exact ⟨ret_u (by simp [resF]), rfl⟩
theorem res3 (a b : Int) (ha : isW a) (hb : isW b) (w : World) : Calls Try.prog 70 #[.int .i64 3, .int .u32 a, .int .u32 b] w fun e w' => e = .returned (.int .u32 (resF 3 a b)) ∧ w = w' := by
  obtain ⟨ha0, ha1⟩ := ha
  obtain ⟨hb0, hb1⟩ := hb
  go_enter Try.func70, Try.ntmps70
  go_wp2_with fail
  go_ret
  exact ⟨ret_u (by simp [resF]), rfl⟩
theorem res4 (a b : Int) (ha : isW a) (hb : isW b) (w : World) : Calls Try.prog 70 #[.int .i64 4, .int .u32 a, .int .u32 b] w fun e w' => e = .returned (.int .u32 (resF 4 a b)) ∧ w = w' := by
  obtain ⟨ha0, ha1⟩ := ha
  obtain ⟨hb0, hb1⟩ := hb
  go_enter Try.func70, Try.ntmps70
  go_wp2_with fail
  go_ret
  exact ⟨ret_u (by simp [resF]), rfl⟩
theorem res5 (a b : Int) (ha : isW a) (hb : isW b) (hz : ¬ b = 0) (w : World) : Calls Try.prog 70 #[.int .i64 5, .int .u32 a, .int .u32 b] w fun e w' => e = .returned (.int .u32 (resF 5 a b)) ∧ w = w' := by
  obtain ⟨ha0, ha1⟩ := ha
  obtain ⟨hb0, hb1⟩ := hb
  have hz2 : (b == 0) = false := by simpa using hz
  go_enter Try.func70, Try.ntmps70
  go_wp2_with fail
  go_ret
  exact ⟨ret_u (by simp [resF]), rfl⟩
theorem res6 (a b : Int) (ha : isW a) (hb : isW b) (hz : ¬ b = 0) (w : World) : Calls Try.prog 70 #[.int .i64 6, .int .u32 a, .int .u32 b] w fun e w' => e = .returned (.int .u32 (resF 6 a b)) ∧ w = w' := by
  obtain ⟨ha0, ha1⟩ := ha
  obtain ⟨hb0, hb1⟩ := hb
  have hz2 : (b == 0) = false := by simpa using hz
  go_enter Try.func70, Try.ntmps70
  go_wp2_with fail
  go_ret
  exact ⟨ret_u (by simp [resF]), rfl⟩
theorem res7 (a b : Int) (ha : isW a) (hb : isW b) (hz : ¬ wrap32 b = 0) (w : World) : Calls Try.prog 70 #[.int .i64 7, .int .u32 a, .int .u32 b] w fun e w' => e = .returned (.int .u32 (resF 7 a b)) ∧ w = w' := by
  obtain ⟨ha0, ha1⟩ := ha
  obtain ⟨hb0, hb1⟩ := hb
  have hz2 : (wrap32 b == 0) = false := by simpa using hz
  go_enter Try.func70, Try.ntmps70
  go_wp2_with fail
  go_ret
  exact ⟨ret_u (by simp [resF]), rfl⟩
theorem res8 (a b : Int) (ha : isW a) (hb : isW b) (hz : ¬ wrap32 b = 0) (w : World) : Calls Try.prog 70 #[.int .i64 8, .int .u32 a, .int .u32 b] w fun e w' => e = .returned (.int .u32 (resF 8 a b)) ∧ w = w' := by
  obtain ⟨ha0, ha1⟩ := ha
  obtain ⟨hb0, hb1⟩ := hb
  have hz2 : (wrap32 b == 0) = false := by simpa using hz
  go_enter Try.func70, Try.ntmps70
  go_wp2_with fail
  go_ret
  exact ⟨ret_u (by simp [resF]), rfl⟩
theorem res9 (a b : Int) (ha : isW a) (hb : isW b) (w : World) : Calls Try.prog 70 #[.int .i64 9, .int .u32 a, .int .u32 b] w fun e w' => e = .returned (.int .u32 (resF 9 a b)) ∧ w = w' := by
  obtain ⟨ha0, ha1⟩ := ha
  obtain ⟨hb0, hb1⟩ := hb
  go_enter Try.func70, Try.ntmps70
  go_wp2_with fail
  go_ret
  exact ⟨ret_u (by simp [resF]), rfl⟩
theorem res10 (a b : Int) (ha : isW a) (hb : isW b) (w : World) : Calls Try.prog 70 #[.int .i64 10, .int .u32 a, .int .u32 b] w fun e w' => e = .returned (.int .u32 (resF 10 a b)) ∧ w = w' := by
  obtain ⟨ha0, ha1⟩ := ha
  obtain ⟨hb0, hb1⟩ := hb
  go_enter Try.func70, Try.ntmps70
  go_wp2_with fail
  go_ret
  exact ⟨ret_u (by simp [resF]), rfl⟩
theorem res11 (a b : Int) (ha : isW a) (hb : isW b) (w : World) : Calls Try.prog 70 #[.int .i64 11, .int .u32 a, .int .u32 b] w fun e w' => e = .returned (.int .u32 (resF 11 a b)) ∧ w = w' := by
  obtain ⟨ha0, ha1⟩ := ha
  obtain ⟨hb0, hb1⟩ := hb
  go_enter Try.func70, Try.ntmps70
  go_wp2_with fail
  go_ret
  exact ⟨ret_u (by simp [resF]), rfl⟩
theorem res12 (a b : Int) (ha : isW a) (hb : isW b) (w : World) : Calls Try.prog 70 #[.int .i64 12, .int .u32 a, .int .u32 b] w fun e w' => e = .returned (.int .u32 (resF 12 a b)) ∧ w = w' := by
  obtain ⟨ha0, ha1⟩ := ha
  obtain ⟨hb0, hb1⟩ := hb
  go_enter Try.func70, Try.ntmps70
  go_wp2_with fail
  go_ret
  exact ⟨ret_u (by simp [resF]), rfl⟩
theorem res13 (a b : Int) (ha : isW a) (hb : isW b) (w : World) : Calls Try.prog 70 #[.int .i64 13, .int .u32 a, .int .u32 b] w fun e w' => e = .returned (.int .u32 (resF 13 a b)) ∧ w = w' := by
  obtain ⟨ha0, ha1⟩ := ha
  obtain ⟨hb0, hb1⟩ := hb
  go_enter Try.func70, Try.ntmps70
  go_wp2_with fail
  go_ret
  exact ⟨ret_u (by simp [resF]), rfl⟩
theorem res14 (a b : Int) (ha : isW a) (hb : isW b) (w : World) : Calls Try.prog 70 #[.int .i64 14, .int .u32 a, .int .u32 b] w fun e w' => e = .returned (.int .u32 (resF 14 a b)) ∧ w = w' := by
  obtain ⟨ha0, ha1⟩ := ha
  obtain ⟨hb0, hb1⟩ := hb
  go_enter Try.func70, Try.ntmps70
  go_wp2_with fail
  go_ret
  exact ⟨ret_u (by simp [resF]), rfl⟩
theorem res15 (a b : Int) (ha : isW a) (hb : isW b) (w : World) : Calls Try.prog 70 #[.int .i64 15, .int .u32 a, .int .u32 b] w fun e w' => e = .returned (.int .u32 (resF 15 a b)) ∧ w = w' := by
  obtain ⟨ha0, ha1⟩ := ha
  obtain ⟨hb0, hb1⟩ := hb
  have HO := Lib.hid one_any
  by_cases hc : wrap32 a < wrap32 b
  · go_enter Try.func70, Try.ntmps70
    go_wp2_with fail
    refine (HO.out _ _).mono ?_; rintro e v ⟨rfl, rfl⟩
    go_wp2_with fail
    go_ret
    exact ⟨ret_u (by simp [resF, hc]), rfl⟩
  · go_enter Try.func70, Try.ntmps70
    go_wp2_with fail
    refine (HO.out _ _).mono ?_; rintro e v ⟨rfl, rfl⟩
    go_wp2_with fail
    go_ret
    exact ⟨ret_u (by simp [resF, hc]), rfl⟩
theorem res16 (a b : Int) (ha : isW a) (hb : isW b) (w : World) : Calls Try.prog 70 #[.int .i64 16, .int .u32 a, .int .u32 b] w fun e w' => e = .returned (.int .u32 (resF 16 a b)) ∧ w = w' := by
  obtain ⟨ha0, ha1⟩ := ha
  obtain ⟨hb0, hb1⟩ := hb
  have HO := Lib.hid one_any
  by_cases hc : a < b
  · go_enter Try.func70, Try.ntmps70
    go_wp2_with fail
    refine (HO.out _ _).mono ?_; rintro e v ⟨rfl, rfl⟩
    go_wp2_with fail
    go_ret
    exact ⟨ret_u (by simp [resF, hc]), rfl⟩
  · go_enter Try.func70, Try.ntmps70
    go_wp2_with fail
    refine (HO.out _ _).mono ?_; rintro e v ⟨rfl, rfl⟩
    go_wp2_with fail
    go_ret
    exact ⟨ret_u (by simp [resF, hc]), rfl⟩
theorem res17 (a b : Int) (w : World) : Calls Try.prog 70 #[.int .i64 17, .int .u32 a, .int .u32 b] w fun e w' => e = .returned (.int .u32 (resF 17 a b)) ∧ w = w' := by
  have HO := Lib.hid one_any
  by_cases hc : a = b
  · subst hc
    go_enter Try.func70, Try.ntmps70
    go_wp2_with fail
    refine (HO.out _ _).mono ?_; rintro e v ⟨rfl, rfl⟩
    go_wp2_with fail
    go_ret
    exact ⟨ret_u (by simp [resF]), rfl⟩
  · have hcb : (a == b) = false := by simpa using hc
    go_enter Try.func70, Try.ntmps70
    go_wp2_with fail
    refine (HO.out _ _).mono ?_; rintro e v ⟨rfl, rfl⟩
    go_wp2_with fail
    go_ret
    exact ⟨ret_u (by simp [resF, hc]), rfl⟩
end Go.Proofs.Ytjfpaelmcepidaa.PK
