/- The walks of pick's computer: its numbers, its memory, its step. -/
import Derived.Test.YtoldgjieplblpaaGreatMB
import Derived.Laws.BitsAllLaws
import Derived.Test.YtoldgjieplblpaaGreatMC
import Derived.Test.YtoldgjieplblpaaGreatMR
import Derived.BigQuiet
import Derived.StillTailTactics
import Derived.Test.YtoldgjieplblpaaGreatM1
namespace Go.Proofs.YtoldgjieplblpaaGreat.PK
open Go.RowKit

theorem truth_any (b : Bool) (w : World) : Calls Tryz.prog 142 #[.bool b] w fun e w' => e = .returned (.int .u32 (if b = true then 1 else 0)) ∧ w = w' := by
  cases b
  · go_enter Tryz.func142, Tryz.ntmps142
    go_wp2_with fail
    go_ret
    exact ⟨rfl, rfl⟩
  · go_enter Tryz.func142, Tryz.ntmps142
    go_wp2_with fail
    go_ret
    exact ⟨rfl, rfl⟩
theorem ret_calc {a b : Int} (h : a = b) : Ending.returned (.tuple #[.int .u32 a, .bool true]) = .returned (.tuple #[.int .u32 b, .bool true]) := by rw [h]
theorem and31 {b : Int} (h : isW b) : bits .and .u32 b 31 = b % 32 := by
  obtain ⟨h1, h2⟩ := h
  rw [u32_and b 31 h1 h2 (by decide) (by decide)]
  have e : b.toNat &&& (31 : Int).toNat = b.toNat % 32 := Nat.and_two_pow_sub_one_eq_mod b.toNat 5
  rw [e]; omega
theorem divide_brk {op a b : Int} (ho : 5 ≤ op ∧ op ≤ 8) (ha : isW a) (hb : isW b) (h : brkF op a b = true) (w : World) : Calls Tryz.prog 143 #[.int .i64 op, .int .u32 a, .int .u32 b] w fun e w' => e = .returned (.tuple #[.int .u32 0, .bool false]) ∧ w = w' := by
  obtain ⟨ha0, ha1⟩ := ha
  obtain ⟨hb0, hb1⟩ := hb
  by_cases hz : b = 0
  · subst hz
    clear h
    go_enter Tryz.func143, Tryz.ntmps143
    go_wp2_with fail
    go_ret2
    exact ⟨rfl, rfl⟩
  · have h2 : (op = 7 ∨ op = 8) ∧ a = 2147483648 ∧ b = 4294967295 := by
      unfold brkF at h
      split at h
      · simp at h; exact absurd h hz
      · split at h
        · rename_i h2
          simp [hz] at h
          exact ⟨h2, h⟩
        · cases h
    obtain ⟨ho2, rfl, rfl⟩ := h2
    have e1 : wrap32 2147483648 = -2147483648 := by kernel_rfl
    have e2 : wrap32 4294967295 = -1 := by kernel_rfl
    clear h hz
    rcases ho2 with rfl | rfl
    · go_enter Tryz.func143, Tryz.ntmps143
      go_wp2_with fail
      go_ret2
      exact ⟨rfl, rfl⟩
    · go_enter Tryz.func143, Tryz.ntmps143
      go_wp2_with fail
      go_ret2
      exact ⟨rfl, rfl⟩
theorem wrap32_m {a : Int} (ha : isW a) : (wrap32 a = -2147483648 ↔ a = 2147483648) ∧ (wrap32 a = -1 ↔ a = 4294967295) := by
  obtain ⟨h1, h2⟩ := ha
  constructor
  · constructor
    · intro h; unfold wrap32 at h; omega
    · rintro rfl; kernel_rfl
  · constructor
    · intro h; unfold wrap32 at h; omega
    · rintro rfl; kernel_rfl

theorem div5 (a b : Int) (ha : isW a) (hb : isW b) (h : brkF 5 a b = false) (w : World) : Calls Tryz.prog 143 #[.int .i64 5, .int .u32 a, .int .u32 b] w fun e w' => e = .returned (.tuple #[.int .u32 (resF 5 a b), .bool true]) ∧ w = w' := by
  have hz : b ≠ 0 := brkF_no h (by omega)
  have hzb : (b == 0) = false := by simpa using hz
  obtain ⟨hm1, hm2⟩ := wrap32_m ha
  obtain ⟨hn1, hn2⟩ := wrap32_m hb
  have hw0 : ¬ wrap32 b = 0 := fun e => hz (wrap32_zero hb e)
  have hwb : (wrap32 b == 0) = false := by simpa using hw0
  obtain ⟨ha0, ha1⟩ := ha
  obtain ⟨hb0, hb1⟩ := hb
  clear hm1 hm2 hn1 hn2 h
  go_enter Tryz.func143, Tryz.ntmps143
  go_wp2_with fail
  go_ret2
  exact ⟨ret_calc (by simp [resF]), rfl⟩
theorem div6 (a b : Int) (ha : isW a) (hb : isW b) (h : brkF 6 a b = false) (w : World) : Calls Tryz.prog 143 #[.int .i64 6, .int .u32 a, .int .u32 b] w fun e w' => e = .returned (.tuple #[.int .u32 (resF 6 a b), .bool true]) ∧ w = w' := by
  have hz : b ≠ 0 := brkF_no h (by omega)
  have hzb : (b == 0) = false := by simpa using hz
  obtain ⟨hm1, hm2⟩ := wrap32_m ha
  obtain ⟨hn1, hn2⟩ := wrap32_m hb
  have hw0 : ¬ wrap32 b = 0 := fun e => hz (wrap32_zero hb e)
  have hwb : (wrap32 b == 0) = false := by simpa using hw0
  obtain ⟨ha0, ha1⟩ := ha
  obtain ⟨hb0, hb1⟩ := hb
  clear hm1 hm2 hn1 hn2 h
  go_enter Tryz.func143, Tryz.ntmps143
  go_wp2_with fail
  go_ret2
  exact ⟨ret_calc (by simp [resF]), rfl⟩
theorem div7 (a b : Int) (ha : isW a) (hb : isW b) (h : brkF 7 a b = false) (w : World) : Calls Tryz.prog 143 #[.int .i64 7, .int .u32 a, .int .u32 b] w fun e w' => e = .returned (.tuple #[.int .u32 (resF 7 a b), .bool true]) ∧ w = w' := by
  have hz : b ≠ 0 := brkF_no h (by omega)
  have hzb : (b == 0) = false := by simpa using hz
  obtain ⟨hm1, hm2⟩ := wrap32_m ha
  obtain ⟨hn1, hn2⟩ := wrap32_m hb
  have hw0 : ¬ wrap32 b = 0 := fun e => hz (wrap32_zero hb e)
  have hwb : (wrap32 b == 0) = false := by simpa using hw0
  obtain ⟨ha0, ha1⟩ := ha
  obtain ⟨hb0, hb1⟩ := hb
  have hpair : ¬ (wrap32 a = -2147483648 ∧ wrap32 b = -1) := fun e => by
    have := hm1.1 e.1
    have := hn2.1 e.2
    subst a b
    simp [brkF] at h
  clear hm1 hm2 hn1 hn2 h
  by_cases hx : wrap32 a = -2147483648
  · have hy : ¬ wrap32 b = -1 := fun e => hpair ⟨hx, e⟩
    have hyb : (wrap32 b == -1) = false := by simpa using hy
    have hxb : (wrap32 a == -2147483648) = true := by simpa using hx
    have HX := Lib.hid hx
    clear hx hpair
    go_enter Tryz.func143, Tryz.ntmps143
    go_wp2_with fail
    go_ret2
    exact ⟨ret_calc (by simp [resF]), rfl⟩
  · have hxb : (wrap32 a == -2147483648) = false := by simpa using hx
    clear hpair
    go_enter Tryz.func143, Tryz.ntmps143
    go_wp2_with fail
    go_ret2
    exact ⟨ret_calc (by simp [resF]), rfl⟩
theorem div8 (a b : Int) (ha : isW a) (hb : isW b) (h : brkF 8 a b = false) (w : World) : Calls Tryz.prog 143 #[.int .i64 8, .int .u32 a, .int .u32 b] w fun e w' => e = .returned (.tuple #[.int .u32 (resF 8 a b), .bool true]) ∧ w = w' := by
  have hz : b ≠ 0 := brkF_no h (by omega)
  have hzb : (b == 0) = false := by simpa using hz
  obtain ⟨hm1, hm2⟩ := wrap32_m ha
  obtain ⟨hn1, hn2⟩ := wrap32_m hb
  have hw0 : ¬ wrap32 b = 0 := fun e => hz (wrap32_zero hb e)
  have hwb : (wrap32 b == 0) = false := by simpa using hw0
  obtain ⟨ha0, ha1⟩ := ha
  obtain ⟨hb0, hb1⟩ := hb
  have hpair : ¬ (wrap32 a = -2147483648 ∧ wrap32 b = -1) := fun e => by
    have := hm1.1 e.1
    have := hn2.1 e.2
    subst a b
    simp [brkF] at h
  clear hm1 hm2 hn1 hn2 h
  by_cases hx : wrap32 a = -2147483648
  · have hy : ¬ wrap32 b = -1 := fun e => hpair ⟨hx, e⟩
    have hyb : (wrap32 b == -1) = false := by simpa using hy
    have hxb : (wrap32 a == -2147483648) = true := by simpa using hx
    have HX := Lib.hid hx
    clear hx hpair
    go_enter Tryz.func143, Tryz.ntmps143
    go_wp2_with fail
    go_ret2
    exact ⟨ret_calc (by simp [resF]), rfl⟩
  · have hxb : (wrap32 a == -2147483648) = false := by simpa using hx
    clear hpair
    go_enter Tryz.func143, Tryz.ntmps143
    go_wp2_with fail
    go_ret2
    exact ⟨ret_calc (by simp [resF]), rfl⟩
theorem cal2 (a b : Int) (ha : isW a) (hb : isW b) (w : World) : Calls Tryz.prog 80 #[.int .i64 2, .int .u32 a, .int .u32 b] w fun e w' => e = .returned (.tuple #[.int .u32 (resF 2 a b), .bool true]) ∧ w = w' := by
  obtain ⟨ha0, ha1⟩ := ha
  obtain ⟨hb0, hb1⟩ := hb
  go_enter Tryz.func80, Tryz.ntmps80
  go_wp2_with fail
  go_ret2
  exact ⟨ret_calc (by simp [resF]), rfl⟩
theorem cal3 (a b : Int) (ha : isW a) (hb : isW b) (w : World) : Calls Tryz.prog 80 #[.int .i64 3, .int .u32 a, .int .u32 b] w fun e w' => e = .returned (.tuple #[.int .u32 (resF 3 a b), .bool true]) ∧ w = w' := by
  obtain ⟨ha0, ha1⟩ := ha
  obtain ⟨hb0, hb1⟩ := hb
  go_enter Tryz.func80, Tryz.ntmps80
  go_wp2_with fail
  go_ret2
  exact ⟨ret_calc (by simp [resF]), rfl⟩
theorem cal4 (a b : Int) (ha : isW a) (hb : isW b) (w : World) : Calls Tryz.prog 80 #[.int .i64 4, .int .u32 a, .int .u32 b] w fun e w' => e = .returned (.tuple #[.int .u32 (resF 4 a b), .bool true]) ∧ w = w' := by
  obtain ⟨ha0, ha1⟩ := ha
  obtain ⟨hb0, hb1⟩ := hb
  go_enter Tryz.func80, Tryz.ntmps80
  go_wp2_with fail
  go_ret2
  exact ⟨ret_calc (by simp [resF]), rfl⟩
theorem cal9 (a b : Int) (ha : isW a) (hb : isW b) (w : World) : Calls Tryz.prog 80 #[.int .i64 9, .int .u32 a, .int .u32 b] w fun e w' => e = .returned (.tuple #[.int .u32 (resF 9 a b), .bool true]) ∧ w = w' := by
  obtain ⟨ha0, ha1⟩ := ha
  obtain ⟨hb0, hb1⟩ := hb
  go_enter Tryz.func80, Tryz.ntmps80
  go_wp2_with fail
  go_ret2
  exact ⟨ret_calc (by simp [resF]), rfl⟩
theorem cal10 (a b : Int) (ha : isW a) (hb : isW b) (w : World) : Calls Tryz.prog 80 #[.int .i64 10, .int .u32 a, .int .u32 b] w fun e w' => e = .returned (.tuple #[.int .u32 (resF 10 a b), .bool true]) ∧ w = w' := by
  obtain ⟨ha0, ha1⟩ := ha
  obtain ⟨hb0, hb1⟩ := hb
  go_enter Tryz.func80, Tryz.ntmps80
  go_wp2_with fail
  go_ret2
  exact ⟨ret_calc (by simp [resF]), rfl⟩
theorem cal11 (a b : Int) (ha : isW a) (hb : isW b) (w : World) : Calls Tryz.prog 80 #[.int .i64 11, .int .u32 a, .int .u32 b] w fun e w' => e = .returned (.tuple #[.int .u32 (resF 11 a b), .bool true]) ∧ w = w' := by
  obtain ⟨ha0, ha1⟩ := ha
  obtain ⟨hb0, hb1⟩ := hb
  go_enter Tryz.func80, Tryz.ntmps80
  go_wp2_with fail
  go_ret2
  exact ⟨ret_calc (by simp [resF]), rfl⟩
theorem cal12 (a b : Int) (ha : isW a) (hb : isW b) (w : World) : Calls Tryz.prog 80 #[.int .i64 12, .int .u32 a, .int .u32 b] w fun e w' => e = .returned (.tuple #[.int .u32 (resF 12 a b), .bool true]) ∧ w = w' := by
  have hba := and31 hb
  have hb5 : 0 ≤ b % 32 := by omega
  have hb6 : b % 32 < 32 := by omega
  obtain ⟨ha0, ha1⟩ := ha
  obtain ⟨hb0, hb1⟩ := hb
  go_enter Tryz.func80, Tryz.ntmps80
  go_wp2_with fail
  go_ret2
  exact ⟨ret_calc (by simp [resF]), rfl⟩
theorem cal13 (a b : Int) (ha : isW a) (hb : isW b) (w : World) : Calls Tryz.prog 80 #[.int .i64 13, .int .u32 a, .int .u32 b] w fun e w' => e = .returned (.tuple #[.int .u32 (resF 13 a b), .bool true]) ∧ w = w' := by
  have hba := and31 hb
  have hb5 : 0 ≤ b % 32 := by omega
  have hb6 : b % 32 < 32 := by omega
  obtain ⟨ha0, ha1⟩ := ha
  obtain ⟨hb0, hb1⟩ := hb
  go_enter Tryz.func80, Tryz.ntmps80
  go_wp2_with fail
  go_ret2
  exact ⟨ret_calc (by simp [resF]), rfl⟩
theorem cal14 (a b : Int) (ha : isW a) (hb : isW b) (w : World) : Calls Tryz.prog 80 #[.int .i64 14, .int .u32 a, .int .u32 b] w fun e w' => e = .returned (.tuple #[.int .u32 (resF 14 a b), .bool true]) ∧ w = w' := by
  have hba := and31 hb
  have hb5 : 0 ≤ b % 32 := by omega
  have hb6 : b % 32 < 32 := by omega
  obtain ⟨ha0, ha1⟩ := ha
  obtain ⟨hb0, hb1⟩ := hb
  go_enter Tryz.func80, Tryz.ntmps80
  go_wp2_with fail
  go_ret2
  exact ⟨ret_calc (by simp [resF]), rfl⟩
theorem cal15 (a b : Int) (ha : isW a) (hb : isW b) (w : World) : Calls Tryz.prog 80 #[.int .i64 15, .int .u32 a, .int .u32 b] w fun e w' => e = .returned (.tuple #[.int .u32 (resF 15 a b), .bool true]) ∧ w = w' := by
  obtain ⟨ha0, ha1⟩ := ha
  obtain ⟨hb0, hb1⟩ := hb
  have HO := Lib.hid truth_any
  by_cases hc : wrap32 a < wrap32 b
  · go_enter Tryz.func80, Tryz.ntmps80
    go_wp2_with fail
    refine (HO.out _ _).mono ?_; rintro e v ⟨rfl, rfl⟩
    go_wp2_with fail
    go_ret2
    exact ⟨ret_calc (by simp [resF, hc]), rfl⟩
  · go_enter Tryz.func80, Tryz.ntmps80
    go_wp2_with fail
    refine (HO.out _ _).mono ?_; rintro e v ⟨rfl, rfl⟩
    go_wp2_with fail
    go_ret2
    exact ⟨ret_calc (by simp [resF, hc]), rfl⟩
theorem cal16 (a b : Int) (ha : isW a) (hb : isW b) (w : World) : Calls Tryz.prog 80 #[.int .i64 16, .int .u32 a, .int .u32 b] w fun e w' => e = .returned (.tuple #[.int .u32 (resF 16 a b), .bool true]) ∧ w = w' := by
  obtain ⟨ha0, ha1⟩ := ha
  obtain ⟨hb0, hb1⟩ := hb
  have HO := Lib.hid truth_any
  by_cases hc : a < b
  · go_enter Tryz.func80, Tryz.ntmps80
    go_wp2_with fail
    refine (HO.out _ _).mono ?_; rintro e v ⟨rfl, rfl⟩
    go_wp2_with fail
    go_ret2
    exact ⟨ret_calc (by simp [resF, hc]), rfl⟩
  · go_enter Tryz.func80, Tryz.ntmps80
    go_wp2_with fail
    refine (HO.out _ _).mono ?_; rintro e v ⟨rfl, rfl⟩
    go_wp2_with fail
    go_ret2
    exact ⟨ret_calc (by simp [resF, hc]), rfl⟩
theorem cal17 (a b : Int) (w : World) : Calls Tryz.prog 80 #[.int .i64 17, .int .u32 a, .int .u32 b] w fun e w' => e = .returned (.tuple #[.int .u32 (resF 17 a b), .bool true]) ∧ w = w' := by
  have HO := Lib.hid truth_any
  by_cases hc : a = b
  · subst hc
    go_enter Tryz.func80, Tryz.ntmps80
    go_wp2_with fail
    refine (HO.out _ _).mono ?_; rintro e v ⟨rfl, rfl⟩
    go_wp2_with fail
    go_ret2
    exact ⟨ret_calc (by simp [resF]), rfl⟩
  · have hcb : (a == b) = false := by simpa using hc
    go_enter Tryz.func80, Tryz.ntmps80
    go_wp2_with fail
    refine (HO.out _ _).mono ?_; rintro e v ⟨rfl, rfl⟩
    go_wp2_with fail
    go_ret2
    exact ⟨ret_calc (by simp [resF, hc]), rfl⟩
theorem divide_any {op a b : Int} (ho : 5 ≤ op ∧ op ≤ 8) (ha : isW a) (hb : isW b) (w : World) : Calls Tryz.prog 143 #[.int .i64 op, .int .u32 a, .int .u32 b] w fun e w' => e = .returned (.tuple #[.int .u32 (if brkF op a b = true then 0 else resF op a b), .bool (!brkF op a b)]) ∧ w = w' := by
  cases h : brkF op a b
  · have hc : op = 5 ∨ op = 6 ∨ op = 7 ∨ op = 8 := by omega
    rcases hc with rfl | rfl | rfl | rfl
    · exact div5 a b ha hb h w
    · exact div6 a b ha hb h w
    · exact div7 a b ha hb h w
    · exact div8 a b ha hb h w
  · exact divide_brk ho ha hb h w
set_option maxHeartbeats 1000000 in
theorem calc_div {op a b : Int} (ho : 5 ≤ op ∧ op ≤ 8) (ha : isW a) (hb : isW b) (w : World) : Calls Tryz.prog 80 #[.int .i64 op, .int .u32 a, .int .u32 b] w fun e w' => e = .returned (.tuple #[.int .u32 (if brkF op a b = true then 0 else resF op a b), .bool (!brkF op a b)]) ∧ w = w' := by
  have HD := Lib.hid (divide_any ho ha hb)
  generalize (if brkF op a b = true then 0 else resF op a b) = r at *
  generalize (!brkF op a b) = t at *
  have hc : op = 5 ∨ op = 6 ∨ op = 7 ∨ op = 8 := by omega
  clear ho ha hb
  rcases hc with rfl | rfl | rfl | rfl
  all_goals
    go_enter Tryz.func80, Tryz.ntmps80
    go_wp2_with fail
    refine (HD.out _).mono ?_; rintro e v ⟨rfl, rfl⟩
    go_wp2_with fail
    go_ret2
    exact ⟨rfl, rfl⟩
theorem brkF_out {op a b : Int} (ho : op < 5 ∨ 8 < op) : brkF op a b = false := by
  unfold brkF
  rw [if_neg (by omega), if_neg (by omega)]
theorem calc_any {op a b : Int} (ho : 2 ≤ op ∧ op ≤ 17) (ha : isW a) (hb : isW b) (w : World) : Calls Tryz.prog 80 #[.int .i64 op, .int .u32 a, .int .u32 b] w fun e w' => e = .returned (.tuple #[.int .u32 (if brkF op a b = true then 0 else resF op a b), .bool (!brkF op a b)]) ∧ w = w' := by
  by_cases h5 : 5 ≤ op ∧ op ≤ 8
  · exact calc_div h5 ha hb w
  · rw [brkF_out (by omega)]
    have hc : op = 2 ∨ op = 3 ∨ op = 4 ∨ op = 9 ∨ op = 10 ∨ op = 11 ∨ op = 12 ∨ op = 13 ∨ op = 14 ∨ op = 15 ∨ op = 16 ∨ op = 17 := by omega
    rcases hc with rfl | rfl | rfl | rfl | rfl | rfl | rfl | rfl | rfl | rfl | rfl | rfl
    · exact cal2 a b ha hb w
    · exact cal3 a b ha hb w
    · exact cal4 a b ha hb w
    · exact cal9 a b ha hb w
    · exact cal10 a b ha hb w
    · exact cal11 a b ha hb w
    · exact cal12 a b ha hb w
    · exact cal13 a b ha hb w
    · exact cal14 a b ha hb w
    · exact cal15 a b ha hb w
    · exact cal16 a b ha hb w
    · exact cal17 a b w
theorem sbytes_any {op : Int} (ho : 18 ≤ op ∧ op ≤ 23) (w : World) : Calls Tryz.prog 82 #[.int .i64 op] w fun e w' => e = .returned (.int .i64 (nB op)) ∧ w = w' := by
  have hc : op = 18 ∨ op = 19 ∨ op = 20 ∨ op = 21 ∨ op = 22 ∨ op = 23 := by omega
  rcases hc with rfl | rfl | rfl | rfl | rfl | rfl
  all_goals
    go_enter Tryz.func82, Tryz.ntmps82
    go_wp2_with fail
    go_ret
    exact ⟨rfl, rfl⟩
end Go.Proofs.YtoldgjieplblpaaGreat.PK
namespace Go.Proofs.YtoldgjieplblpaaGreat.PK
open Go.RowKit

theorem or_lo {x b : Int} (hx : 0 ≤ x ∧ x + b < 4294967296) (hm : x % 256 = 0) (hb : 0 ≤ b ∧ b < 256) : bits .or .u32 x b = x + b := by
  rw [u32_or x b hx.1 (by omega) hb.1 (by omega)]
  have h := Nat.two_pow_add_eq_or_of_lt (i := 8) (b := b.toNat) (by omega) (x.toNat / 256)
  have e : 2 ^ 8 * (x.toNat / 256) = x.toNat := by
    have : x.toNat % 256 = 0 := by omega
    omega
  rw [e] at h
  rw [← h]; omega
theorem or_hi {x y : Int} (k : Nat) (hx : 0 ≤ x ∧ x < 2 ^ k) (hy : 0 ≤ y) (hs : x + y < 4294967296) (hm : y.toNat % 2 ^ k = 0) : bits .or .u32 x y = x + y := by
  rw [u32_or x y hx.1 (by omega) hy (by omega)]
  have hxk : x.toNat < 2 ^ k := by
    have : ((x.toNat : Nat) : Int) < ((2 ^ k : Nat) : Int) := by rw [Int.toNat_of_nonneg hx.1, Int.natCast_pow]; exact hx.2
    exact Int.ofNat_lt.1 this
  have h := Nat.two_pow_add_eq_or_of_lt (i := k) (b := x.toNat) hxk (y.toNat / 2 ^ k)
  have e : 2 ^ k * (y.toNat / 2 ^ k) = y.toNat := Nat.mul_div_cancel' (Nat.dvd_of_mod_eq_zero hm)
  rw [e] at h
  rw [Nat.or_comm, ← h]; omega
/-- The first i bytes read, from the lowest one up. -/
def gtD (mem : List Int) (at0 : Nat) : Nat → Int
  | 0 => 0
  | i + 1 => bits .or .u32 (gtD mem at0 i) (mem.getD (at0 + i) 0 * 2 ^ (8 * i) % 4294967296)
theorem gtD_w (mem : List Int) (at0 : Nat) : ∀ d, isW (gtD mem at0 d)
  | 0 => zero_w
  | _ + 1 => bits_w _ _ _
theorem or_zero {b : Int} (hb : 0 ≤ b ∧ b < 256) : bits .or .u32 0 b = b := by rw [or_lo (by omega) (by decide) hb]; omega
theorem gt_one {mem : List Int} {at0 : Nat} (hB : ∀ k, isB (mem.getD k 0)) : gtD mem at0 1 = mem.getD at0 0 := by
  have h := hB at0
  obtain ⟨h1, h2⟩ := h
  show bits .or .u32 0 (mem.getD (at0 + 0) 0 * 2 ^ (8 * 0) % 4294967296) = _
  rw [Nat.add_zero, Nat.mul_zero, Int.pow_zero, Int.mul_one, Int.emod_eq_of_lt h1 (by omega), or_zero ⟨h1, h2⟩]
theorem gt_two {mem : List Int} {at0 : Nat} (hB : ∀ k, isB (mem.getD k 0)) : gtD mem at0 2 = mem.getD at0 0 + mem.getD (at0 + 1) 0 * 256 := by
  show bits .or .u32 (gtD mem at0 1) (mem.getD (at0 + 1) 0 * 2 ^ (8 * 1) % 4294967296) = _
  rw [gt_one hB]
  obtain ⟨h1, h2⟩ := hB at0
  obtain ⟨h3, h4⟩ := hB (at0 + 1)
  generalize mem.getD at0 0 = a at *
  generalize mem.getD (at0 + 1) 0 = b at *
  have e : b * 2 ^ (8 * 1) % 4294967296 = b * 256 := by show b * 256 % 4294967296 = _; omega
  rw [e]
  exact or_hi 8 (by omega) (by omega) (by omega) (by omega)
theorem gt_three {mem : List Int} {at0 : Nat} (hB : ∀ k, isB (mem.getD k 0)) : gtD mem at0 3 = mem.getD at0 0 + mem.getD (at0 + 1) 0 * 256 + mem.getD (at0 + 2) 0 * 65536 := by
  show bits .or .u32 (gtD mem at0 2) (mem.getD (at0 + 2) 0 * 2 ^ (8 * 2) % 4294967296) = _
  rw [gt_two hB]
  obtain ⟨h1, h2⟩ := hB at0
  obtain ⟨h3, h4⟩ := hB (at0 + 1)
  obtain ⟨h5, h6⟩ := hB (at0 + 2)
  generalize mem.getD at0 0 = a at *
  generalize mem.getD (at0 + 1) 0 = b at *
  generalize mem.getD (at0 + 2) 0 = c at *
  have e : c * 2 ^ (8 * 2) % 4294967296 = c * 65536 := by show c * 65536 % 4294967296 = _; omega
  rw [e]
  exact or_hi 16 (by omega) (by omega) (by omega) (by omega)
theorem gt_four {mem : List Int} {at0 : Nat} (hB : ∀ k, isB (mem.getD k 0)) : gtD mem at0 4 = mem.getD at0 0 + mem.getD (at0 + 1) 0 * 256 + mem.getD (at0 + 2) 0 * 65536 + mem.getD (at0 + 3) 0 * 16777216 := by
  show bits .or .u32 (gtD mem at0 3) (mem.getD (at0 + 3) 0 * 2 ^ (8 * 3) % 4294967296) = _
  rw [gt_three hB]
  obtain ⟨h1, h2⟩ := hB at0
  obtain ⟨h3, h4⟩ := hB (at0 + 1)
  obtain ⟨h5, h6⟩ := hB (at0 + 2)
  obtain ⟨h7, h8⟩ := hB (at0 + 3)
  generalize mem.getD at0 0 = a at *
  generalize mem.getD (at0 + 1) 0 = b at *
  generalize mem.getD (at0 + 2) 0 = c at *
  generalize mem.getD (at0 + 3) 0 = d at *
  have e : d * 2 ^ (8 * 3) % 4294967296 = d * 16777216 := by show d * 16777216 % 4294967296 = _; omega
  rw [e]
  exact or_hi 24 (by omega) (by omega) (by omega) (by omega)
theorem rd_step {mem : List Int} {at0 many d : Nat} {x b : Int} (hx : rdD mem at0 many d = x) (hb : mem.getD (at0 + (many - (d + 1))) 0 = b) (h : 0 ≤ x ∧ x < 16777216) (hB : isB b) : rdD mem at0 many (d + 1) = x * 256 + b := by
  show bits .or .u32 (rdD mem at0 many d * 256 % 4294967296) (mem.getD (at0 + (many - (d + 1))) 0) = _
  rw [hx, hb]
  obtain ⟨h1, h2⟩ := hB
  have e : x * 256 % 4294967296 = x * 256 := by omega
  rw [e]
  exact or_lo (by omega) (by omega) ⟨h1, h2⟩
/-- Both ways to read agree. -/
theorem gt_rd {mem : List Int} {at0 many : Nat} (hB : ∀ k, isB (mem.getD k 0)) (hm : many = 1 ∨ many = 2 ∨ many = 4) : gtD mem at0 many = rdF mem at0 many := by
  have b0 := hB at0; have b1 := hB (at0 + 1); have b2 := hB (at0 + 2); have b3 := hB (at0 + 3)
  unfold rdF
  rcases hm with rfl | rfl | rfl
  · rw [gt_one hB, rd_step (x := 0) (b := mem.getD at0 0) rfl rfl (by decide) b0]; omega
  · have r1 := rd_step (mem := mem) (at0 := at0) (many := 2) (d := 0) (x := 0) (b := mem.getD (at0 + 1) 0) rfl rfl (by decide) b1
    rw [gt_two hB, rd_step (b := mem.getD at0 0) r1 rfl (by have := b1.1; have := b1.2; omega) b0]; omega
  · have r1 := rd_step (mem := mem) (at0 := at0) (many := 4) (d := 0) (x := 0) (b := mem.getD (at0 + 3) 0) rfl rfl (by decide) b3
    have r2 := rd_step (b := mem.getD (at0 + 2) 0) r1 rfl (by have := b3.1; have := b3.2; omega) b2
    have r3 := rd_step (b := mem.getD (at0 + 1) 0) r2 rfl (by have := b3.1; have := b3.2; have := b2.1; have := b2.2; omega) b1
    rw [gt_four hB, rd_step (b := mem.getD at0 0) r3 rfl (by have := b3.1; have := b3.2; have := b2.1; have := b2.2; have := b1.1; have := b1.2; omega) b0]; omega
theorem nB_three (op : Int) : nB op = 1 ∨ nB op = 2 ∨ nB op = 4 := by
  unfold nB
  split
  · exact .inl rfl
  · split
    · exact .inr (.inl rfl)
    · exact .inr (.inr rfl)
set_option maxRecDepth 100000 in
set_option maxHeartbeats 2000000 in
theorem get_any (mem : List Int) (a : Option Addr) (cap at0 many : Nat) (w : World) (hin : BIn w a mem) (hB : ∀ x ∈ mem, isB x) (hl : mem.length ≤ 1000000) (hat : at0 + many ≤ mem.length) (hm : many = 1 ∨ many = 2 ∨ many = 4) :
    Calls Tryz.prog 48 #[.slice a mem.length cap, .int .i64 at0, .int .i64 many] w fun e w' => e = .returned (.int .u32 (rdF mem at0 many)) ∧ w = w' := by
  have HI := Lib.hid hin
  have HBy := Lib.hid (fun k => getD_b hB k)
  have HW := Lib.hid (fun d => gtD_w mem at0 d)
  have HRes := Lib.hid (gt_rd (at0 := at0) (fun k => getD_b hB k) hm)
  have hm4 : many ≤ 4 := by omega
  clear hin hB hm
  go_enter Tryz.func48, Tryz.ntmps48
  go_wp2_with fail
  go_loopw [7, 10] (fun n i wr => ∃ d : Nat, d ≤ many ∧ i = .int .i64 d ∧ n = .int .u32 (gtD mem at0 d) ∧ w = wr) (fun _ i _ => many - (intOf i).toNat)
  case atStart => exact ⟨0, Nat.zero_le _, rfl, rfl, by trivial⟩
  case round =>
    obtain ⟨d, hd, rfl, rfl, rfl⟩ := hrel
    by_cases hlt : d < many
    · obtain ⟨b, off, rfl, hc⟩ := HI.out (at0 + d) (by omega)
      have hby := HBy.out (at0 + d)
      have hw := HW.out d
      have HN : Hid (gtD mem at0 (d + 1) = bits .or .u32 (gtD mem at0 d) (mem.getD (at0 + d) 0 * 2 ^ (8 * d) % 4294967296)) := Lib.hid rfl
      have hdi : (d : Int) < (many : Int) := by omega
      have hix : ((at0 : Int) + (d : Int)).toNat = at0 + d := by omega
      have hil : (at0 : Int) + (d : Int) < (mem.length : Int) := by omega
      have hin0 : (0 : Int) ≤ (at0 : Int) + (d : Int) := by omega
      have hd0 : (0 : Int) ≤ (d : Int) := by omega
      obtain ⟨hw0, hw1⟩ := hw
      obtain ⟨hb0, hb1⟩ := hby
      generalize mem.getD (at0 + d) 0 = x at *
      generalize hn : gtD mem at0 d = n at *
      clear hn
      go_wp2_with fail
      go_roundw
      case rel => exact ⟨d + 1, by omega, by go_num, by rw [HN.out], by trivial⟩
      case measure => simp [intOf]; omega
    · obtain rfl : d = many := by omega
      go_wp2_with fail
      go_ret
      exact ⟨ret_u' HRes.out, rfl⟩
set_option maxRecDepth 100000 in
set_option maxHeartbeats 2000000 in
theorem put_any (mem : List Int) (B g cap at0 many : Nat) (v : Int) (w : World) (ho : w.ownsRow B 5 1 (.slice (some ⟨g, 0, none⟩) mem.length cap) mem.length (encB mem)) (hl : mem.length ≤ 1000000) (hat : at0 + many ≤ mem.length) (h4 : many ≤ 4) (hv : isW v) :
    Calls Tryz.prog 43 #[.slice (some ⟨g, 0, none⟩) mem.length cap, .int .i64 at0, .int .i64 many, .int .u32 v] w fun e w' => e = .returned (.tuple #[]) ∧ w'.ownsRow B 5 1 (.slice (some ⟨g, 0, none⟩) mem.length cap) mem.length (encB (wrF mem at0 many v)) ∧ Save g w w' := by
  have HO := Lib.hid ho
  have HL := Lib.hid (fun i => wrD_len mem at0 v i)
  clear ho
  obtain ⟨hv0, hv1⟩ := hv
  generalize hml : mem.length = n at *
  have HMl := Lib.hid hml; clear hml
  go_enter Tryz.func43, Tryz.ntmps43
  go_wp2_with fail
  go_loopw [10] (fun i wr => ∃ k : Nat, k ≤ many ∧ i = .int .i64 k ∧ wr.ownsRow B 5 1 (.slice (some ⟨g, 0, none⟩) n cap) n (encB (wrD mem at0 v k)) ∧ Save g w wr) (fun i _ => many - (intOf i).toNat)
  case atStart => exact ⟨0, Nat.zero_le _, rfl, HO.out, Save.refl _ _⟩
  case round =>
    obtain ⟨k, hk, rfl, ho, hs⟩ := hrel
    by_cases hlt : k < many
    · obtain ⟨g', c', ev, _, _, _, _, hcs, hfz⟩ := owns_cells ho (by omega)
      simp only [Value.slice.injEq, Option.some.injEq, Addr.mk.injEq, and_true, true_and] at ev
      obtain ⟨rfl, rfl⟩ := ev
      have hlk := HL.out k
      have hcell := hcs (at0 + k) _ (encB_get (by rw [hlk]; omega))
      have hfr := hfz (at0 + k)
      have HO2 := Lib.hid ho; have HS := Lib.hid hs
      have HN : Hid (wrD mem at0 v (k + 1) = (wrD mem at0 v k).set (at0 + k) (v / 2 ^ (8 * k) % 256)) := Lib.hid rfl
      have hix : ((at0 : Int) + (k : Int)).toNat = at0 + k := by omega
      have hil : (at0 : Int) + (k : Int) < (n : Int) := by omega
      have hin0 : (0 : Int) ≤ (at0 : Int) + (k : Int) := by omega
      clear ho hs hcs hfz hlk
      generalize (wrD mem at0 v k).getD (at0 + k) 0 = old at *
      have hki : (k : Int) < (many : Int) := by omega
      go_wp2_with fail
      go_roundw
      case rel => exact ⟨k + 1, by omega, by go_num, by rw [HN.out, encB_set]; exact owns_set HO2.out _ _, HS.out.trans (Save.set _ _ _ _)⟩
      case measure => simp [intOf]; omega
    · obtain rfl : k = many := by omega
      have HO2 := Lib.hid ho; have HS := Lib.hid hs
      clear ho hs
      go_wp2_with fail
      go_end0
      exact ⟨rfl, HO2.out, HS.out⟩
end Go.Proofs.YtoldgjieplblpaaGreat.PK
namespace Go.Proofs.YtoldgjieplblpaaGreat.PK
open Go.RowKit

/-- The computer's five fields, its registers and its memory. -/
structure CompAt (w : World) (c rq g mc B : Nat) (s : Mach) (e : Int) : Prop where
  blk : w.heap[c]? = some (.cells #[.slice (some ⟨rq, 0, none⟩) s.rg.length s.rg.length, .slice (some ⟨g, 0, none⟩) s.mem.length mc, .int .i64 s.blk, .int .i64 s.pc, .int .i64 e] 83 (0, 0))
  u : URow w rq s.rg
  m : w.ownsRow B 5 1 (.slice (some ⟨g, 0, none⟩) s.mem.length mc) s.mem.length (encB s.mem)
  far : B ≤ c ∧ B ≤ rq ∧ c ≠ rq ∧ c ≠ g ∧ rq ≠ g
theorem CompAt.mch {w : World} {c rq g mc B : Nat} {s : Mach} {e : Int} (h : CompAt w c rq g mc B s e) : B ≤ g ∧ g < w.heap.size := owns_block h.m rfl
theorem CompAt.c0 {w : World} {c rq g mc B : Nat} {s : Mach} {e : Int} (h : CompAt w c rq g mc B s e) : w.cell? ⟨c, 0, none⟩ = some (.slice (some ⟨rq, 0, none⟩) s.rg.length s.rg.length) := by simp [World.cell?, h.blk]
theorem CompAt.c1 {w : World} {c rq g mc B : Nat} {s : Mach} {e : Int} (h : CompAt w c rq g mc B s e) : w.cell? ⟨c, 1, none⟩ = some (.slice (some ⟨g, 0, none⟩) s.mem.length mc) := by simp [World.cell?, h.blk]
theorem CompAt.c2 {w : World} {c rq g mc B : Nat} {s : Mach} {e : Int} (h : CompAt w c rq g mc B s e) : w.cell? ⟨c, 2, none⟩ = some (.int .i64 s.blk) := by simp [World.cell?, h.blk]
theorem CompAt.c3 {w : World} {c rq g mc B : Nat} {s : Mach} {e : Int} (h : CompAt w c rq g mc B s e) : w.cell? ⟨c, 3, none⟩ = some (.int .i64 s.pc) := by simp [World.cell?, h.blk]
theorem CompAt.c4 {w : World} {c rq g mc B : Nat} {s : Mach} {e : Int} (h : CompAt w c rq g mc B s e) : w.cell? ⟨c, 4, none⟩ = some (.int .i64 e) := by simp [World.cell?, h.blk]
theorem CompAt.free {w : World} {c rq g mc B : Nat} {s : Mach} {e : Int} (h : CompAt w c rq g mc B s e) (k : Nat) : w.frozen? ⟨c, k, none⟩ = false := by simp [World.frozen?, h.blk]
theorem CompAt.lt {w : World} {c rq g mc B : Nat} {s : Mach} {e : Int} (h : CompAt w c rq g mc B s e) : c < w.heap.size := lt_of_block h.blk
theorem CompAt.below {w w' : World} {c rq g mc B : Nat} {s : Mach} {e : Int} (h : CompAt w c rq g mc B s e) (hb : Below w.heap.size w w') : CompAt w' c rq g mc B s e :=
  ⟨by rw [hb.block c h.lt]; exact h.blk, h.u.below hb, owns_below h.m hb, h.far⟩
theorem CompAt.other {w : World} {c rq g mc B : Nat} {s : Mach} {e : Int} (h : CompAt w c rq g mc B s e) (k : Nat) (v : Value) : URow (w.setCell ⟨c, k, none⟩ v) rq s.rg ∧ (w.setCell ⟨c, k, none⟩ v).ownsRow B 5 1 (.slice (some ⟨g, 0, none⟩) s.mem.length mc) s.mem.length (encB s.mem) := by
  obtain ⟨_, _, h3, h4, h5⟩ := h.far
  constructor
  · unfold URow
    rw [heap_setCell_other w _ _ v (fun e => h3 e.symm)]
    exact h.u
  · exact ownsRow_setCell_other h.m (fun e => by cases e; exact h4 rfl) v
theorem CompAt.setPc {w : World} {c rq g mc B : Nat} {s : Mach} {e : Int} (h : CompAt w c rq g mc B s e) (p : Nat) : CompAt (w.setCell ⟨c, 3, none⟩ (.int .i64 p)) c rq g mc B { s with pc := p } e :=
  ⟨by rw [heap_setCell_same w c 3 _ _ _ h.blk]; rfl, (h.other 3 _).1, (h.other 3 _).2, h.far⟩
theorem CompAt.setBlk {w : World} {c rq g mc B : Nat} {s : Mach} {e : Int} (h : CompAt w c rq g mc B s e) (p : Nat) : CompAt (w.setCell ⟨c, 2, none⟩ (.int .i64 p)) c rq g mc B { s with blk := p } e :=
  ⟨by rw [heap_setCell_same w c 2 _ _ _ h.blk]; rfl, (h.other 2 _).1, (h.other 2 _).2, h.far⟩
theorem CompAt.setEnd {w : World} {c rq g mc B : Nat} {s : Mach} {e : Int} (h : CompAt w c rq g mc B s e) (f : Int) : CompAt (w.setCell ⟨c, 4, none⟩ (.int .i64 f)) c rq g mc B s f :=
  ⟨by rw [heap_setCell_same w c 4 _ _ _ h.blk]; rfl, (h.other 4 _).1, (h.other 4 _).2, h.far⟩
theorem CompAt.setReg {w : World} {c rq g mc B : Nat} {s : Mach} {e : Int} (h : CompAt w c rq g mc B s e) (d : Nat) (v : Int) : CompAt (w.setCell ⟨rq, d, none⟩ (.int .u32 v)) c rq g mc B { s with rg := s.rg.set d v } e := by
  obtain ⟨h1, h2, h3, h4, h5⟩ := h.far
  refine ⟨?_, h.u.set d v, ownsRow_setCell_other h.m (fun e => by cases e; exact h5 rfl) _, h.far⟩
  rw [heap_setCell_other w _ _ _ (fun e => h3 e)]
  show _ = some (Obj.cells #[.slice (some ⟨rq, 0, none⟩) (s.rg.set d v).length (s.rg.set d v).length, _, _, _, _] _ _)
  rw [List.length_set]
  exact h.blk
end Go.Proofs.YtoldgjieplblpaaGreat.PK
namespace Go.Proofs.YtoldgjieplblpaaGreat.PK
open Go.RowKit

theorem CompAt.setOther {w : World} {c rq g mc B : Nat} {s : Mach} {e : Int} (h : CompAt w c rq g mc B s e) {b k : Nat} {v : Value} (h1 : b ≠ c) (h2 : b ≠ rq) (h3 : b ≠ g) : CompAt (w.setCell ⟨b, k, none⟩ v) c rq g mc B s e :=
  ⟨by rw [heap_setCell_other w _ _ v (fun e => h1 e.symm)]; exact h.blk, by unfold URow; rw [heap_setCell_other w _ _ v (fun e => h2 e.symm)]; exact h.u, ownsRow_setCell_other h.m (fun e => by cases e; exact h3 rfl) v, h.far⟩
theorem CompAt.drew {w : World} {c rq g mc B : Nat} {s : Mach} {e : Int} (h : CompAt w c rq g mc B s e) : CompAt w.drew c rq g mc B s e := ⟨h.blk, h.u, h.m, h.far⟩
theorem quietS {f : FuncId} {args : Array Value} {w : World} {n : Nat} {v : Value} (h : Calls Tryz.prog f args (w.drewN n) fun e w' => e = .returned v ∧ w.drewN n = w') : Calls Tryz.prog f args (w.drewN n) fun e w'' => e = .returned v ∧ ∃ m, w'' = w.drewN m :=
  Calls.quiet_of_same (h.mono fun _ _ k => ⟨k.1, k.2.symm⟩)
theorem quietSn {f : FuncId} {args : Array Value} {w : World} {k n : Nat} {v : Value} (h : Calls Tryz.prog f args (w.drewN (k + n)) fun e w' => e = .returned v ∧ w.drewN (k + n) = w') : Calls Tryz.prog f args (w.drewN (k + n)) fun e w'' => e = .returned v ∧ ∃ m, w'' = w.drewN (k + m) :=
  h.mono fun _ _ h => ⟨h.1, n, h.2.symm⟩
theorem ret_ad {a b : Int} {p q : Bool} (h1 : a = b) (h2 : p = q) : Ending.returned (.tuple #[.int .i64 a, .bool p]) = .returned (.tuple #[.int .i64 b, .bool q]) := by rw [h1, h2]
/-- What a jump leaves. -/
def JumpPost (c rq g mc B : Nat) (s : Mach) (e : Int) (n : Nat) (w w' : World) : Prop := CompAt w' c rq g mc B { s with blk := n, pc := 0 } e ∧ Below B w w'
theorem jump_any {s : Mach} {c rq g mc B : Nat} {e : Int} {w : World} (h : CompAt w c rq g mc B s e) (n : Nat) :
    Calls Tryz.prog 83 #[.pointer (some ⟨c, 0, none⟩), .int .i64 n] w fun ex w' => ex = .returned (.tuple #[]) ∧ JumpPost c rq g mc B s e n w w' := by
  have HC := Lib.hid h
  have d2 := h.c2
  have f2 := h.free 2
  have d3 := ((h.setBlk n).setPc 0).c3
  have d3 := (h.setBlk n).c3
  have f3 := (h.setBlk n).free 3
  simp only at d2 d3
  clear h
  go_enter Tryz.func83, Tryz.ntmps83
  go_wp2_with fail
  go_end0
  refine ⟨rfl, (HC.out.setBlk n).setPc 0, ((Below.refl B w).setCell HC.out.far.1 _).setCell HC.out.far.1 _⟩
set_option maxRecDepth 100000 in
set_option maxHeartbeats 2000000 in
theorem addr_any {x : Cd} {s : Mach} {c rq g mc B : Nat} {e : Int} {w : World} (h : CompAt w c rq g mc B s e) (hW : ∀ v ∈ s.rg, isW v) (him : (x.im : Int) < 4294967296) (ho : 18 ≤ x.op ∧ x.op ≤ 23) (ha : x.a < s.rg.length) :
    Calls Tryz.prog 81 #[.pointer (some ⟨c, 0, none⟩), (.agg #[.int .i64 x.op, .int .i64 x.d, .int .i64 x.a, .int .i64 x.b, .int .u32 x.im, .int .i64 x.to])] w fun ex w' => ex = .returned (.tuple #[.int .i64 (plc s x), .bool (decide (plc s x + nB x.op ≤ s.mem.length))]) ∧ Below w.heap.size w w' := by
  have HXa := Lib.hid (cdAt_new w x 68)
  have HBa := Lib.hid ((Below.refl w.heap.size w).alloc (Nat.le_refl _) (.cells #[.int .i64 x.op, .int .i64 x.d, .int .i64 x.a, .int .i64 x.b, .int .u32 x.im, .int .i64 x.to] 68))
  have HCa := Lib.hid (h.below HBa.out)
  have HP : Hid (plc s x = ((opA s x + x.im) % 4294967296).toNat) := Lib.hid rfl
  have HN := Lib.hid (nB_three x.op)
  have HA : Hid (opA s x = if 0 ≤ x.a then s.rg.getD x.a.toNat 0 else 0) := Lib.hid (by
    have : fA x.op = true := by unfold fA; exact decide_eq_true (by omega)
    unfold opA
    simp only [this, true_and])
  have HWa := Lib.hid (getD_w hW x.a.toNat)
  generalize opA s x = oa at *
  generalize plc s x = pl at *
  clear h hW
  have HBy : Hid (∀ w : World, Calls Tryz.prog 82 #[.int .i64 x.op] w fun e w' => e = .returned (.int .i64 (nB x.op)) ∧ w = w') := Lib.hid (fun w => sbytes_any ho w)
  generalize nB x.op = nb at *
  obtain ⟨x0, x1, x2, x3, x4, x5⟩ := x
  simp only at *
  have HXb : Hid (CdAt (w.alloc (.cells #[.int .i64 x0, .int .i64 x1, .int .i64 x2, .int .i64 x3, .int .u32 x4, .int .i64 x5] 68)) w.heap.size 0 ⟨x0, x1, x2, x3, x4, x5⟩) := HXa
  have HCb : Hid (CompAt (w.alloc (.cells #[.int .i64 x0, .int .i64 x1, .int .i64 x2, .int .i64 x3, .int .u32 x4, .int .i64 x5] 68)) c rq g mc B s e) := HCa
  have HBb : Hid (Below w.heap.size w (w.alloc (.cells #[.int .i64 x0, .int .i64 x1, .int .i64 x2, .int .i64 x3, .int .u32 x4, .int .i64 x5] 68))) := HBa
  clear ho
  clear HXa HCa HBa
  go_enter Tryz.func81, Tryz.ntmps81
  go_upto_region 1 with (fail)
  generalize hw0 : w.alloc _ = w0
  generalize hq : w.heap.size = qx
  have HX : Hid (CdAt w0 qx 0 ⟨x0, x1, x2, x3, x4, x5⟩) := by subst hw0 hq; exact HXb
  have HC0 : Hid (CompAt w0 c rq g mc B s e) := by subst hw0; exact HCb
  have HB0 : Hid (Below qx w w0) := by subst hw0 hq; exact HBb
  have HQ := Lib.hid hq
  clear hw0 hq HXb HCb HBb
  obtain ⟨k0, k1, k2, k3, k4, k5⟩ := cell_six_in0 HX.out
  simp only at k0 k1 k2 k3 k4 k5
  have d0 := HC0.out.c0; have d1 := HC0.out.c1
  by_cases hneg : 0 ≤ x2
  · obtain ⟨na, rfl⟩ : ∃ na : Nat, x2 = (na : Int) := ⟨x2.toNat, by omega⟩
    have hna : na < s.rg.length := by omega
    have hca := HC0.out.u.cell hna
    have hA := HA.out
    have hWa := HWa.out
    rw [if_pos hneg] at hA
    rw [Int.toNat_natCast] at hA hWa
    subst hA
    obtain ⟨hw1, hw2⟩ := hWa
    clear HA HWa
    generalize s.rg.getD na 0 = va at *
    have HP : Hid (pl = ((x4 + va) % 4294967296 : Int).toNat) := Lib.hid (by rw [HP.out, Int.add_comm])
    have hm0 : (0 : Int) ≤ (x4 + va) % 4294967296 := Int.emod_nonneg _ (by decide)
    have hm1 : ((x4 : Int) + va) % 4294967296 < 4294967296 := Int.emod_lt_of_pos _ (by decide)
    have HD : Hid (∀ y : Int, 0 ≤ y → (y.toNat : Int) = y) := Lib.hid (fun y hy => Int.toNat_of_nonneg hy)
    go_wp2_with fail
    go_quiet (fail)
    generalize ((x4 : Int) + va) % 4294967296 = y at *
    have hwy : IntKind.i64.wrap y = y := by rw [IntKind.wrap_i64]; omega
    go_wp2_with fail
    go_quiet ((go_at_call 82; first | exact quietS (HBy.out _) | exact quietSn (HBy.out _)))
    go_wp2_with fail
    go_ret2
    exact ⟨ret_ad (by rw [HP.out, HD.out y hm0]) (decide_eq_decide.2 (by rw [show wrap64 (y + (nb : Int)) = y + nb from by have := HN.out; unfold wrap64; omega]; have := HP.out; omega)), by rw [HQ.out]; first | exact below_drewN HB0.out _ | exact below_drewN (below_drewN HB0.out _) _⟩
  · have hA := HA.out
    rw [if_neg hneg] at hA
    subst hA
    clear HA HWa
    obtain ⟨y, hy⟩ : ∃ y : Int, y = x4 := ⟨x4, rfl⟩
    have hm0 : 0 ≤ y := by omega
    have hm1 : y < 4294967296 := by omega
    have HP : Hid (pl = y.toNat) := Lib.hid (by rw [HP.out, hy]; omega)
    have HD : Hid (∀ y : Int, 0 ≤ y → (y.toNat : Int) = y) := Lib.hid (fun y hy => Int.toNat_of_nonneg hy)
    rw [← hy] at k4
    clear hy
    go_wp2_with fail
    have hwy : IntKind.i64.wrap y = y := by rw [IntKind.wrap_i64]; omega
    go_quiet ((go_at_call 82; first | exact quietS (HBy.out _) | exact quietSn (HBy.out _)))
    go_wp2_with fail
    go_ret2
    exact ⟨ret_ad (by rw [HP.out, HD.out y hm0]) (decide_eq_decide.2 (by rw [show wrap64 (y + (nb : Int)) = y + nb from by have := HN.out; unfold wrap64; omega]; have := HP.out; omega)), by rw [HQ.out]; first | exact below_drewN HB0.out _ | exact below_drewN (below_drewN HB0.out _) _⟩
end Go.Proofs.YtoldgjieplblpaaGreat.PK
namespace Go.Proofs.YtoldgjieplblpaaGreat.PK
open Go.RowKit

theorem flipC {f : FuncId} {args : Array Value} {w : World} {v : Value} (h : Calls Tryz.prog f args w fun e w' => e = .returned v ∧ w = w') : Calls Tryz.prog f args w fun e w' => e = .returned v ∧ w' = w := h.mono fun _ _ k => ⟨k.1, k.2.symm⟩
theorem CompAt.putMem {w w' : World} {c rq g mc B : Nat} {s : Mach} {e : Int} {mem2 : List Int} (h : CompAt w c rq g mc B s e) (hs : Save g w w') (hm : w'.ownsRow B 5 1 (.slice (some ⟨g, 0, none⟩) s.mem.length mc) s.mem.length (encB mem2)) (hl : mem2.length = s.mem.length) : CompAt w' c rq g mc B { s with mem := mem2 } e := by
  obtain ⟨_, _, _, h4, h5⟩ := h.far
  refine ⟨?_, ?_, ?_, h.far⟩
  · rw [hs.block c h.lt h4]
    show _ = some (Obj.cells #[_, .slice (some ⟨g, 0, none⟩) mem2.length mc, _, _, _] _ _)
    rw [hl]
    exact h.blk
  · show w'.heap[rq]? = _
    rw [hs.block rq h.u.lt h5]
    exact h.u
  · show w'.ownsRow B _ 1 (.slice (some ⟨g, 0, none⟩) mem2.length mc) mem2.length (encB mem2)
    rw [hl]
    exact hm
theorem CdAt.setOther {w : World} {b c k : Nat} {x : Cd} {v : Value} (h : CdAt w b 0 x) (hb : b ≠ c) : CdAt (w.setCell ⟨c, k, none⟩ v) b 0 x := by
  have hk : ∀ j u, w.cell? ⟨b, j, none⟩ = some u → (w.setCell ⟨c, k, none⟩ v).cell? ⟨b, j, none⟩ = some u := fun j u hu => by
    rw [World.cell?_setCell_other _ _ _ _ (fun e => hb (by cases e; rfl))]; exact hu
  exact ⟨hk _ _ h.c0, hk _ _ h.c1, hk _ _ h.c2, hk _ _ h.c3, hk _ _ h.c4, hk _ _ h.c5⟩
set_option maxRecDepth 100000 in
set_option maxHeartbeats 4000000 in
theorem sstep_li {x : Cd} {s : Mach} {c rq g mc B : Nat} {w : World} (h : CompAt w c rq g mc B s 0) (hpc : s.pc < 9223372036854775807) (ho : x.op = 0) (hd : 0 ≤ x.d ∧ x.d < s.rg.length) :
    Calls Tryz.prog 40 #[.pointer (some ⟨c, 0, none⟩), (.agg #[.int .i64 x.op, .int .i64 x.d, .int .i64 x.a, .int .i64 x.b, .int .u32 x.im, .int .i64 x.to])] w fun e w' => e = .returned (.tuple #[]) ∧ CompAt w' c rq g mc B { s with pc := s.pc + 1, rg := s.rg.set x.d.toNat x.im } 0 ∧ Below B w w' := by
  have hcl := h.lt
  have HXa := Lib.hid (cdAt_new w x 68)
  have hb0 := (Below.refl w.heap.size w).alloc (Nat.le_refl _) (.cells #[.int .i64 x.op, .int .i64 x.d, .int .i64 x.a, .int .i64 x.b, .int .u32 x.im, .int .i64 x.to] 68)
  have HCa := Lib.hid (h.below hb0)
  have hBw : B ≤ w.heap.size := by have := h.far.1; omega
  have HBa := Lib.hid (hb0.mono hBw)
  have HFar := Lib.hid h.far
  clear h hb0
  obtain ⟨x0, x1, x2, x3, x4, x5⟩ := x
  simp only at *
  have HXb : Hid (CdAt (w.alloc (.cells #[.int .i64 x0, .int .i64 x1, .int .i64 x2, .int .i64 x3, .int .u32 x4, .int .i64 x5] 68)) w.heap.size 0 ⟨x0, x1, x2, x3, x4, x5⟩) := HXa
  have HCb : Hid (CompAt (w.alloc (.cells #[.int .i64 x0, .int .i64 x1, .int .i64 x2, .int .i64 x3, .int .u32 x4, .int .i64 x5] 68)) c rq g mc B s 0) := HCa
  have HBb : Hid (Below B w (w.alloc (.cells #[.int .i64 x0, .int .i64 x1, .int .i64 x2, .int .i64 x3, .int .u32 x4, .int .i64 x5] 68))) := HBa
  have HO := Lib.hid ho
  clear ho
  clear HXa HCa HBa
  go_enter Tryz.func40, Tryz.ntmps40
  go_upto_region 1 with (fail)
  generalize hw0 : w.alloc _ = w0
  generalize hq : w.heap.size = qx
  have HX : Hid (CdAt w0 qx 0 ⟨x0, x1, x2, x3, x4, x5⟩) := by subst hw0 hq; exact HXb
  have HC0 : Hid (CompAt w0 c rq g mc B s 0) := by subst hw0; exact HCb
  have HB0 : Hid (Below B w w0) := by subst hw0; exact HBb
  have hqc : qx ≠ c := by omega
  have hqB : B ≤ qx := by omega
  clear hw0 hq HXb HCb HBb
  have d3 := HC0.out.c3
  have f3 := HC0.out.free 3
  go_upto_region 3 with (fail)
  have HC1 : Hid (CompAt (w0.setCell ⟨c, 3, none⟩ (.int .i64 ((s.pc : Int) + 1))) c rq g mc B { s with pc := s.pc + 1 } 0) := Lib.hid (HC0.out.setPc (s.pc + 1))
  have HX1 : Hid (CdAt (w0.setCell ⟨c, 3, none⟩ (.int .i64 ((s.pc : Int) + 1))) qx 0 ⟨x0, x1, x2, x3, x4, x5⟩) := Lib.hid (HX.out.setOther hqc)
  have HB1 : Hid (Below B w (w0.setCell ⟨c, 3, none⟩ (.int .i64 ((s.pc : Int) + 1)))) := Lib.hid (HB0.out.setCell HFar.out.1 _)
  clear d3 f3 HC0 HX HB0
  generalize w0.setCell ⟨c, 3, none⟩ (.int .i64 ((s.pc : Int) + 1)) = w1 at *
  obtain ⟨k0, k1, k2, k3, k4, k5⟩ := cell_six_in0 HX1.out
  simp only at k0 k1 k2 k3 k4 k5
  have d0 := HC1.out.c0; have d1 := HC1.out.c1; have d2 := HC1.out.c2; have d3 := HC1.out.c3; have d4 := HC1.out.c4
  have f2 := HC1.out.free 2; have f3 := HC1.out.free 3; have f4 := HC1.out.free 4
  simp only at d0 d1 d2 d3 d4
  have ho := HO.out
  clear HO
  subst ho
  have hur := HC1.out.u
  have hfr := fun k => hur.free k
  have hdl : (x1.toNat : Int) = x1 := by omega
  obtain ⟨nd, rfl⟩ : ∃ nd : Nat, x1 = (nd : Int) := ⟨x1.toNat, by omega⟩
  have hnd : nd < s.rg.length := by omega
  have hdi : (nd : Int) < (s.rg.length : Int) := by omega
  have hcd := hur.cell hnd
  have hfd := hfr nd
  have hd0 : (0 : Int) ≤ (nd : Int) := by omega
  clear hfr hdl hur
  generalize s.rg.getD nd 0 = vold at *
  go_wp2_with fail
  refine wp_region_still_tail 9 (by kernel_rfl) (by kernel_rfl) ?_
  simp only [List.take_succ_cons, List.take_zero, List.drop_succ_cons, List.drop_zero]
  repeat still_step
  refine wpStill_nil ?_
  change wpList _ _ _ _ _ w1.drew
  have HCd : Hid (CompAt w1.drew c rq g mc B { s with pc := s.pc + 1 } 0) := Lib.hid ⟨HC1.out.blk, HC1.out.u, HC1.out.m, HC1.out.far⟩
  have HBd := Lib.hid (below_drew1 HB1.out)
  have hcd : w1.drew.cell? ⟨rq, nd, none⟩ = some (.int .u32 vold) := hcd
  have hfd : w1.drew.frozen? ⟨rq, nd, none⟩ = false := hfd
  generalize w1.drew = w2 at *
  go_wp2_with fail
  go_end0
  exact ⟨rfl, HCd.out.setReg nd _, HBd.out.setCell HFar.out.2.1 _⟩
set_option maxRecDepth 100000 in
set_option maxHeartbeats 4000000 in
theorem sstep_mv {x : Cd} {s : Mach} {c rq g mc B : Nat} {w : World} (h : CompAt w c rq g mc B s 0) (hpc : s.pc < 9223372036854775807) (ho : x.op = 1) (hd : 0 ≤ x.d ∧ x.d < s.rg.length) (ha : 0 ≤ x.a ∧ x.a < s.rg.length) :
    Calls Tryz.prog 40 #[.pointer (some ⟨c, 0, none⟩), (.agg #[.int .i64 x.op, .int .i64 x.d, .int .i64 x.a, .int .i64 x.b, .int .u32 x.im, .int .i64 x.to])] w fun e w' => e = .returned (.tuple #[]) ∧ CompAt w' c rq g mc B { s with pc := s.pc + 1, rg := s.rg.set x.d.toNat (s.rg.getD x.a.toNat 0) } 0 ∧ Below B w w' := by
  have hcl := h.lt
  have HXa := Lib.hid (cdAt_new w x 68)
  have hb0 := (Below.refl w.heap.size w).alloc (Nat.le_refl _) (.cells #[.int .i64 x.op, .int .i64 x.d, .int .i64 x.a, .int .i64 x.b, .int .u32 x.im, .int .i64 x.to] 68)
  have HCa := Lib.hid (h.below hb0)
  have hBw : B ≤ w.heap.size := by have := h.far.1; omega
  have HBa := Lib.hid (hb0.mono hBw)
  have HFar := Lib.hid h.far
  clear h hb0
  obtain ⟨x0, x1, x2, x3, x4, x5⟩ := x
  simp only at *
  have HXb : Hid (CdAt (w.alloc (.cells #[.int .i64 x0, .int .i64 x1, .int .i64 x2, .int .i64 x3, .int .u32 x4, .int .i64 x5] 68)) w.heap.size 0 ⟨x0, x1, x2, x3, x4, x5⟩) := HXa
  have HCb : Hid (CompAt (w.alloc (.cells #[.int .i64 x0, .int .i64 x1, .int .i64 x2, .int .i64 x3, .int .u32 x4, .int .i64 x5] 68)) c rq g mc B s 0) := HCa
  have HBb : Hid (Below B w (w.alloc (.cells #[.int .i64 x0, .int .i64 x1, .int .i64 x2, .int .i64 x3, .int .u32 x4, .int .i64 x5] 68))) := HBa
  have HO := Lib.hid ho
  clear ho
  clear HXa HCa HBa
  go_enter Tryz.func40, Tryz.ntmps40
  go_upto_region 1 with (fail)
  generalize hw0 : w.alloc _ = w0
  generalize hq : w.heap.size = qx
  have HX : Hid (CdAt w0 qx 0 ⟨x0, x1, x2, x3, x4, x5⟩) := by subst hw0 hq; exact HXb
  have HC0 : Hid (CompAt w0 c rq g mc B s 0) := by subst hw0; exact HCb
  have HB0 : Hid (Below B w w0) := by subst hw0; exact HBb
  have hqc : qx ≠ c := by omega
  have hqB : B ≤ qx := by omega
  clear hw0 hq HXb HCb HBb
  have d3 := HC0.out.c3
  have f3 := HC0.out.free 3
  go_upto_region 3 with (fail)
  have HC1 : Hid (CompAt (w0.setCell ⟨c, 3, none⟩ (.int .i64 ((s.pc : Int) + 1))) c rq g mc B { s with pc := s.pc + 1 } 0) := Lib.hid (HC0.out.setPc (s.pc + 1))
  have HX1 : Hid (CdAt (w0.setCell ⟨c, 3, none⟩ (.int .i64 ((s.pc : Int) + 1))) qx 0 ⟨x0, x1, x2, x3, x4, x5⟩) := Lib.hid (HX.out.setOther hqc)
  have HB1 : Hid (Below B w (w0.setCell ⟨c, 3, none⟩ (.int .i64 ((s.pc : Int) + 1)))) := Lib.hid (HB0.out.setCell HFar.out.1 _)
  clear d3 f3 HC0 HX HB0
  generalize w0.setCell ⟨c, 3, none⟩ (.int .i64 ((s.pc : Int) + 1)) = w1 at *
  obtain ⟨k0, k1, k2, k3, k4, k5⟩ := cell_six_in0 HX1.out
  simp only at k0 k1 k2 k3 k4 k5
  have d0 := HC1.out.c0; have d1 := HC1.out.c1; have d2 := HC1.out.c2; have d3 := HC1.out.c3; have d4 := HC1.out.c4
  have f2 := HC1.out.free 2; have f3 := HC1.out.free 3; have f4 := HC1.out.free 4
  simp only at d0 d1 d2 d3 d4
  have ho := HO.out
  clear HO
  subst ho
  obtain ⟨na, rfl⟩ : ∃ na : Nat, x2 = (na : Int) := ⟨x2.toNat, by omega⟩
  have hna : na < s.rg.length := by omega
  have hai : (na : Int) < (s.rg.length : Int) := by omega
  have ha0 : (0 : Int) ≤ (na : Int) := by omega
  have hca := HC1.out.u.cell hna
  have hur := HC1.out.u
  have hfr := fun k => hur.free k
  have hdl : (x1.toNat : Int) = x1 := by omega
  obtain ⟨nd, rfl⟩ : ∃ nd : Nat, x1 = (nd : Int) := ⟨x1.toNat, by omega⟩
  have hnd : nd < s.rg.length := by omega
  have hdi : (nd : Int) < (s.rg.length : Int) := by omega
  have hcd := hur.cell hnd
  have hfd := hfr nd
  have hd0 : (0 : Int) ≤ (nd : Int) := by omega
  clear hfr hdl hur
  generalize s.rg.getD nd 0 = vold at *
  generalize hva : s.rg.getD na 0 = va at *
  have HVa := Lib.hid hva
  clear hva
  go_wp2_with fail
  refine wp_region_still_tail 15 (by kernel_rfl) (by kernel_rfl) ?_
  simp only [List.take_succ_cons, List.take_zero, List.drop_succ_cons, List.drop_zero]
  repeat still_step
  refine wpStill_nil ?_
  change wpList _ _ _ _ _ w1.drew
  have HCd : Hid (CompAt w1.drew c rq g mc B { s with pc := s.pc + 1 } 0) := Lib.hid ⟨HC1.out.blk, HC1.out.u, HC1.out.m, HC1.out.far⟩
  have HBd := Lib.hid (below_drew1 HB1.out)
  have hcd : w1.drew.cell? ⟨rq, nd, none⟩ = some (.int .u32 vold) := hcd
  have hfd : w1.drew.frozen? ⟨rq, nd, none⟩ = false := hfd
  generalize w1.drew = w2 at *
  go_wp2_with fail
  go_end0
  exact ⟨rfl, by rw [show ((na : Int)).toNat = na from Int.toNat_natCast na, HVa.out]; exact HCd.out.setReg nd va, HBd.out.setCell HFar.out.2.1 _⟩
set_option maxRecDepth 100000 in
set_option maxHeartbeats 4000000 in
theorem sstep_halt {x : Cd} {s : Mach} {c rq g mc B : Nat} {w : World} (h : CompAt w c rq g mc B s 0) (hpc : s.pc < 9223372036854775807) (ho : x.op = 26) :
    Calls Tryz.prog 40 #[.pointer (some ⟨c, 0, none⟩), (.agg #[.int .i64 x.op, .int .i64 x.d, .int .i64 x.a, .int .i64 x.b, .int .u32 x.im, .int .i64 x.to])] w fun e w' => e = .returned (.tuple #[]) ∧ CompAt w' c rq g mc B { s with pc := s.pc + 1 } 1 ∧ Below B w w' := by
  have hcl := h.lt
  have HXa := Lib.hid (cdAt_new w x 68)
  have hb0 := (Below.refl w.heap.size w).alloc (Nat.le_refl _) (.cells #[.int .i64 x.op, .int .i64 x.d, .int .i64 x.a, .int .i64 x.b, .int .u32 x.im, .int .i64 x.to] 68)
  have HCa := Lib.hid (h.below hb0)
  have hBw : B ≤ w.heap.size := by have := h.far.1; omega
  have HBa := Lib.hid (hb0.mono hBw)
  have HFar := Lib.hid h.far
  clear h hb0
  obtain ⟨x0, x1, x2, x3, x4, x5⟩ := x
  simp only at *
  have HXb : Hid (CdAt (w.alloc (.cells #[.int .i64 x0, .int .i64 x1, .int .i64 x2, .int .i64 x3, .int .u32 x4, .int .i64 x5] 68)) w.heap.size 0 ⟨x0, x1, x2, x3, x4, x5⟩) := HXa
  have HCb : Hid (CompAt (w.alloc (.cells #[.int .i64 x0, .int .i64 x1, .int .i64 x2, .int .i64 x3, .int .u32 x4, .int .i64 x5] 68)) c rq g mc B s 0) := HCa
  have HBb : Hid (Below B w (w.alloc (.cells #[.int .i64 x0, .int .i64 x1, .int .i64 x2, .int .i64 x3, .int .u32 x4, .int .i64 x5] 68))) := HBa
  have HO := Lib.hid ho
  clear ho
  clear HXa HCa HBa
  go_enter Tryz.func40, Tryz.ntmps40
  go_upto_region 1 with (fail)
  generalize hw0 : w.alloc _ = w0
  generalize hq : w.heap.size = qx
  have HX : Hid (CdAt w0 qx 0 ⟨x0, x1, x2, x3, x4, x5⟩) := by subst hw0 hq; exact HXb
  have HC0 : Hid (CompAt w0 c rq g mc B s 0) := by subst hw0; exact HCb
  have HB0 : Hid (Below B w w0) := by subst hw0; exact HBb
  have hqc : qx ≠ c := by omega
  have hqB : B ≤ qx := by omega
  clear hw0 hq HXb HCb HBb
  have d3 := HC0.out.c3
  have f3 := HC0.out.free 3
  go_upto_region 3 with (fail)
  have HC1 : Hid (CompAt (w0.setCell ⟨c, 3, none⟩ (.int .i64 ((s.pc : Int) + 1))) c rq g mc B { s with pc := s.pc + 1 } 0) := Lib.hid (HC0.out.setPc (s.pc + 1))
  have HX1 : Hid (CdAt (w0.setCell ⟨c, 3, none⟩ (.int .i64 ((s.pc : Int) + 1))) qx 0 ⟨x0, x1, x2, x3, x4, x5⟩) := Lib.hid (HX.out.setOther hqc)
  have HB1 : Hid (Below B w (w0.setCell ⟨c, 3, none⟩ (.int .i64 ((s.pc : Int) + 1)))) := Lib.hid (HB0.out.setCell HFar.out.1 _)
  clear d3 f3 HC0 HX HB0
  generalize w0.setCell ⟨c, 3, none⟩ (.int .i64 ((s.pc : Int) + 1)) = w1 at *
  obtain ⟨k0, k1, k2, k3, k4, k5⟩ := cell_six_in0 HX1.out
  simp only at k0 k1 k2 k3 k4 k5
  have d0 := HC1.out.c0; have d1 := HC1.out.c1; have d2 := HC1.out.c2; have d3 := HC1.out.c3; have d4 := HC1.out.c4
  have f2 := HC1.out.free 2; have f3 := HC1.out.free 3; have f4 := HC1.out.free 4
  simp only at d0 d1 d2 d3 d4
  have ho := HO.out
  clear HO
  subst ho
  go_wp2_with fail
  go_end0
  exact ⟨rfl, HC1.out.setEnd 1, HB1.out.setCell HFar.out.1 _⟩
set_option maxRecDepth 100000 in
set_option maxHeartbeats 4000000 in
theorem sstep_stop {x : Cd} {s : Mach} {c rq g mc B : Nat} {w : World} (h : CompAt w c rq g mc B s 0) (hpc : s.pc < 9223372036854775807) (ho : x.op = 27) :
    Calls Tryz.prog 40 #[.pointer (some ⟨c, 0, none⟩), (.agg #[.int .i64 x.op, .int .i64 x.d, .int .i64 x.a, .int .i64 x.b, .int .u32 x.im, .int .i64 x.to])] w fun e w' => e = .returned (.tuple #[]) ∧ CompAt w' c rq g mc B { s with pc := s.pc + 1 } 2 ∧ Below B w w' := by
  have hcl := h.lt
  have HXa := Lib.hid (cdAt_new w x 68)
  have hb0 := (Below.refl w.heap.size w).alloc (Nat.le_refl _) (.cells #[.int .i64 x.op, .int .i64 x.d, .int .i64 x.a, .int .i64 x.b, .int .u32 x.im, .int .i64 x.to] 68)
  have HCa := Lib.hid (h.below hb0)
  have hBw : B ≤ w.heap.size := by have := h.far.1; omega
  have HBa := Lib.hid (hb0.mono hBw)
  have HFar := Lib.hid h.far
  clear h hb0
  obtain ⟨x0, x1, x2, x3, x4, x5⟩ := x
  simp only at *
  have HXb : Hid (CdAt (w.alloc (.cells #[.int .i64 x0, .int .i64 x1, .int .i64 x2, .int .i64 x3, .int .u32 x4, .int .i64 x5] 68)) w.heap.size 0 ⟨x0, x1, x2, x3, x4, x5⟩) := HXa
  have HCb : Hid (CompAt (w.alloc (.cells #[.int .i64 x0, .int .i64 x1, .int .i64 x2, .int .i64 x3, .int .u32 x4, .int .i64 x5] 68)) c rq g mc B s 0) := HCa
  have HBb : Hid (Below B w (w.alloc (.cells #[.int .i64 x0, .int .i64 x1, .int .i64 x2, .int .i64 x3, .int .u32 x4, .int .i64 x5] 68))) := HBa
  have HO := Lib.hid ho
  clear ho
  clear HXa HCa HBa
  go_enter Tryz.func40, Tryz.ntmps40
  go_upto_region 1 with (fail)
  generalize hw0 : w.alloc _ = w0
  generalize hq : w.heap.size = qx
  have HX : Hid (CdAt w0 qx 0 ⟨x0, x1, x2, x3, x4, x5⟩) := by subst hw0 hq; exact HXb
  have HC0 : Hid (CompAt w0 c rq g mc B s 0) := by subst hw0; exact HCb
  have HB0 : Hid (Below B w w0) := by subst hw0; exact HBb
  have hqc : qx ≠ c := by omega
  have hqB : B ≤ qx := by omega
  clear hw0 hq HXb HCb HBb
  have d3 := HC0.out.c3
  have f3 := HC0.out.free 3
  go_upto_region 3 with (fail)
  have HC1 : Hid (CompAt (w0.setCell ⟨c, 3, none⟩ (.int .i64 ((s.pc : Int) + 1))) c rq g mc B { s with pc := s.pc + 1 } 0) := Lib.hid (HC0.out.setPc (s.pc + 1))
  have HX1 : Hid (CdAt (w0.setCell ⟨c, 3, none⟩ (.int .i64 ((s.pc : Int) + 1))) qx 0 ⟨x0, x1, x2, x3, x4, x5⟩) := Lib.hid (HX.out.setOther hqc)
  have HB1 : Hid (Below B w (w0.setCell ⟨c, 3, none⟩ (.int .i64 ((s.pc : Int) + 1)))) := Lib.hid (HB0.out.setCell HFar.out.1 _)
  clear d3 f3 HC0 HX HB0
  generalize w0.setCell ⟨c, 3, none⟩ (.int .i64 ((s.pc : Int) + 1)) = w1 at *
  obtain ⟨k0, k1, k2, k3, k4, k5⟩ := cell_six_in0 HX1.out
  simp only at k0 k1 k2 k3 k4 k5
  have d0 := HC1.out.c0; have d1 := HC1.out.c1; have d2 := HC1.out.c2; have d3 := HC1.out.c3; have d4 := HC1.out.c4
  have f2 := HC1.out.free 2; have f3 := HC1.out.free 3; have f4 := HC1.out.free 4
  simp only at d0 d1 d2 d3 d4
  have ho := HO.out
  clear HO
  subst ho
  go_wp2_with fail
  go_end0
  exact ⟨rfl, HC1.out.setEnd 2, HB1.out.setCell HFar.out.1 _⟩
set_option maxRecDepth 100000 in
set_option maxHeartbeats 4000000 in
theorem sstep_jmp {x : Cd} {s : Mach} {c rq g mc B : Nat} {w : World} (h : CompAt w c rq g mc B s 0) (hpc : s.pc < 9223372036854775807) (ho : x.op = 24) (ht : 0 ≤ x.to) :
    Calls Tryz.prog 40 #[.pointer (some ⟨c, 0, none⟩), (.agg #[.int .i64 x.op, .int .i64 x.d, .int .i64 x.a, .int .i64 x.b, .int .u32 x.im, .int .i64 x.to])] w fun e w' => e = .returned (.tuple #[]) ∧ CompAt w' c rq g mc B { s with blk := x.to.toNat, pc := 0 } 0 ∧ Below B w w' := by
  have hcl := h.lt
  have HXa := Lib.hid (cdAt_new w x 68)
  have hb0 := (Below.refl w.heap.size w).alloc (Nat.le_refl _) (.cells #[.int .i64 x.op, .int .i64 x.d, .int .i64 x.a, .int .i64 x.b, .int .u32 x.im, .int .i64 x.to] 68)
  have HCa := Lib.hid (h.below hb0)
  have hBw : B ≤ w.heap.size := by have := h.far.1; omega
  have HBa := Lib.hid (hb0.mono hBw)
  have HFar := Lib.hid h.far
  clear h hb0
  obtain ⟨x0, x1, x2, x3, x4, x5⟩ := x
  simp only at *
  have HXb : Hid (CdAt (w.alloc (.cells #[.int .i64 x0, .int .i64 x1, .int .i64 x2, .int .i64 x3, .int .u32 x4, .int .i64 x5] 68)) w.heap.size 0 ⟨x0, x1, x2, x3, x4, x5⟩) := HXa
  have HCb : Hid (CompAt (w.alloc (.cells #[.int .i64 x0, .int .i64 x1, .int .i64 x2, .int .i64 x3, .int .u32 x4, .int .i64 x5] 68)) c rq g mc B s 0) := HCa
  have HBb : Hid (Below B w (w.alloc (.cells #[.int .i64 x0, .int .i64 x1, .int .i64 x2, .int .i64 x3, .int .u32 x4, .int .i64 x5] 68))) := HBa
  have HO := Lib.hid ho
  clear ho
  clear HXa HCa HBa
  go_enter Tryz.func40, Tryz.ntmps40
  go_upto_region 1 with (fail)
  generalize hw0 : w.alloc _ = w0
  generalize hq : w.heap.size = qx
  have HX : Hid (CdAt w0 qx 0 ⟨x0, x1, x2, x3, x4, x5⟩) := by subst hw0 hq; exact HXb
  have HC0 : Hid (CompAt w0 c rq g mc B s 0) := by subst hw0; exact HCb
  have HB0 : Hid (Below B w w0) := by subst hw0; exact HBb
  have hqc : qx ≠ c := by omega
  have hqB : B ≤ qx := by omega
  clear hw0 hq HXb HCb HBb
  have d3 := HC0.out.c3
  have f3 := HC0.out.free 3
  go_upto_region 3 with (fail)
  have HC1 : Hid (CompAt (w0.setCell ⟨c, 3, none⟩ (.int .i64 ((s.pc : Int) + 1))) c rq g mc B { s with pc := s.pc + 1 } 0) := Lib.hid (HC0.out.setPc (s.pc + 1))
  have HX1 : Hid (CdAt (w0.setCell ⟨c, 3, none⟩ (.int .i64 ((s.pc : Int) + 1))) qx 0 ⟨x0, x1, x2, x3, x4, x5⟩) := Lib.hid (HX.out.setOther hqc)
  have HB1 : Hid (Below B w (w0.setCell ⟨c, 3, none⟩ (.int .i64 ((s.pc : Int) + 1)))) := Lib.hid (HB0.out.setCell HFar.out.1 _)
  clear d3 f3 HC0 HX HB0
  generalize w0.setCell ⟨c, 3, none⟩ (.int .i64 ((s.pc : Int) + 1)) = w1 at *
  obtain ⟨k0, k1, k2, k3, k4, k5⟩ := cell_six_in0 HX1.out
  simp only at k0 k1 k2 k3 k4 k5
  have d0 := HC1.out.c0; have d1 := HC1.out.c1; have d2 := HC1.out.c2; have d3 := HC1.out.c3; have d4 := HC1.out.c4
  have f2 := HC1.out.free 2; have f3 := HC1.out.free 3; have f4 := HC1.out.free 4
  simp only at d0 d1 d2 d3 d4
  have ho := HO.out
  clear HO
  subst ho
  obtain ⟨nt, rfl⟩ : ∃ nt : Nat, x5 = (nt : Int) := ⟨x5.toNat, by omega⟩
  go_wp2_with fail
  refine (jump_any HC1.out nt).mono ?_
  rintro e w4 ⟨rfl, hj⟩
  go_wp2_with fail
  go_end0
  exact ⟨rfl, by rw [Int.toNat_natCast]; exact hj.1, HB1.out.trans hj.2⟩
set_option maxRecDepth 100000 in
set_option maxHeartbeats 4000000 in
theorem sstep_bnz {x : Cd} {s : Mach} {c rq g mc B : Nat} {w : World} (h : CompAt w c rq g mc B s 0) (hpc : s.pc < 9223372036854775807) (ho : x.op = 25) (ht : 0 ≤ x.to) (ha : 0 ≤ x.a ∧ x.a < s.rg.length) (hv : s.rg.getD x.a.toNat 0 ≠ 0) :
    Calls Tryz.prog 40 #[.pointer (some ⟨c, 0, none⟩), (.agg #[.int .i64 x.op, .int .i64 x.d, .int .i64 x.a, .int .i64 x.b, .int .u32 x.im, .int .i64 x.to])] w fun e w' => e = .returned (.tuple #[]) ∧ CompAt w' c rq g mc B { s with blk := x.to.toNat, pc := 0 } 0 ∧ Below B w w' := by
  have hcl := h.lt
  have HXa := Lib.hid (cdAt_new w x 68)
  have hb0 := (Below.refl w.heap.size w).alloc (Nat.le_refl _) (.cells #[.int .i64 x.op, .int .i64 x.d, .int .i64 x.a, .int .i64 x.b, .int .u32 x.im, .int .i64 x.to] 68)
  have HCa := Lib.hid (h.below hb0)
  have hBw : B ≤ w.heap.size := by have := h.far.1; omega
  have HBa := Lib.hid (hb0.mono hBw)
  have HFar := Lib.hid h.far
  clear h hb0
  obtain ⟨x0, x1, x2, x3, x4, x5⟩ := x
  simp only at *
  have HXb : Hid (CdAt (w.alloc (.cells #[.int .i64 x0, .int .i64 x1, .int .i64 x2, .int .i64 x3, .int .u32 x4, .int .i64 x5] 68)) w.heap.size 0 ⟨x0, x1, x2, x3, x4, x5⟩) := HXa
  have HCb : Hid (CompAt (w.alloc (.cells #[.int .i64 x0, .int .i64 x1, .int .i64 x2, .int .i64 x3, .int .u32 x4, .int .i64 x5] 68)) c rq g mc B s 0) := HCa
  have HBb : Hid (Below B w (w.alloc (.cells #[.int .i64 x0, .int .i64 x1, .int .i64 x2, .int .i64 x3, .int .u32 x4, .int .i64 x5] 68))) := HBa
  have HO := Lib.hid ho
  clear ho
  clear HXa HCa HBa
  go_enter Tryz.func40, Tryz.ntmps40
  go_upto_region 1 with (fail)
  generalize hw0 : w.alloc _ = w0
  generalize hq : w.heap.size = qx
  have HX : Hid (CdAt w0 qx 0 ⟨x0, x1, x2, x3, x4, x5⟩) := by subst hw0 hq; exact HXb
  have HC0 : Hid (CompAt w0 c rq g mc B s 0) := by subst hw0; exact HCb
  have HB0 : Hid (Below B w w0) := by subst hw0; exact HBb
  have hqc : qx ≠ c := by omega
  have hqB : B ≤ qx := by omega
  clear hw0 hq HXb HCb HBb
  have d3 := HC0.out.c3
  have f3 := HC0.out.free 3
  go_upto_region 3 with (fail)
  have HC1 : Hid (CompAt (w0.setCell ⟨c, 3, none⟩ (.int .i64 ((s.pc : Int) + 1))) c rq g mc B { s with pc := s.pc + 1 } 0) := Lib.hid (HC0.out.setPc (s.pc + 1))
  have HX1 : Hid (CdAt (w0.setCell ⟨c, 3, none⟩ (.int .i64 ((s.pc : Int) + 1))) qx 0 ⟨x0, x1, x2, x3, x4, x5⟩) := Lib.hid (HX.out.setOther hqc)
  have HB1 : Hid (Below B w (w0.setCell ⟨c, 3, none⟩ (.int .i64 ((s.pc : Int) + 1)))) := Lib.hid (HB0.out.setCell HFar.out.1 _)
  clear d3 f3 HC0 HX HB0
  generalize w0.setCell ⟨c, 3, none⟩ (.int .i64 ((s.pc : Int) + 1)) = w1 at *
  obtain ⟨k0, k1, k2, k3, k4, k5⟩ := cell_six_in0 HX1.out
  simp only at k0 k1 k2 k3 k4 k5
  have d0 := HC1.out.c0; have d1 := HC1.out.c1; have d2 := HC1.out.c2; have d3 := HC1.out.c3; have d4 := HC1.out.c4
  have f2 := HC1.out.free 2; have f3 := HC1.out.free 3; have f4 := HC1.out.free 4
  simp only at d0 d1 d2 d3 d4
  have ho := HO.out
  clear HO
  subst ho
  obtain ⟨nt, rfl⟩ : ∃ nt : Nat, x5 = (nt : Int) := ⟨x5.toNat, by omega⟩
  obtain ⟨na, rfl⟩ : ∃ na : Nat, x2 = (na : Int) := ⟨x2.toNat, by omega⟩
  have hna : na < s.rg.length := by omega
  have hai : (na : Int) < (s.rg.length : Int) := by omega
  have ha0 : (0 : Int) ≤ (na : Int) := by omega
  have hca := HC1.out.u.cell hna
  have HVa : Hid (s.rg.getD na 0 ≠ 0) := Lib.hid (by simpa using hv)
  generalize s.rg.getD na 0 = va at *
  have hva := HVa.out
  clear hv
  go_wp2_with fail
  go_quiet (fail)
  have HCq : Hid (CompAt (w1.drewN nq) c rq g mc B { s with pc := s.pc + 1 } 0) := Lib.hid ⟨HC1.out.blk, HC1.out.u, HC1.out.m, HC1.out.far⟩
  have HBq := Lib.hid (below_drewN HB1.out nq)
  have k5q : (w1.drewN nq).cell? ⟨qx, 5, none⟩ = some (.int .i64 (nt : Int)) := k5
  clear k0 k1 k2 k3 k4 k5 d0 d1 d2 d3 d4 f2 f3 f4 hca HC1 HB1 HX1
  generalize w1.drewN nq = wq at *
  go_wp2_with fail
  refine (jump_any HCq.out nt).mono ?_
  rintro e w4 ⟨rfl, hj⟩
  go_wp2_with fail
  go_end0
  exact ⟨rfl, by rw [Int.toNat_natCast]; exact hj.1, HBq.out.trans hj.2⟩
set_option maxRecDepth 100000 in
set_option maxHeartbeats 4000000 in
theorem sstep_bz {x : Cd} {s : Mach} {c rq g mc B : Nat} {w : World} (h : CompAt w c rq g mc B s 0) (hpc : s.pc < 9223372036854775807) (ho : x.op = 25) (ht : 0 ≤ x.to) (ha : 0 ≤ x.a ∧ x.a < s.rg.length) (hv : s.rg.getD x.a.toNat 0 = 0) :
    Calls Tryz.prog 40 #[.pointer (some ⟨c, 0, none⟩), (.agg #[.int .i64 x.op, .int .i64 x.d, .int .i64 x.a, .int .i64 x.b, .int .u32 x.im, .int .i64 x.to])] w fun e w' => e = .returned (.tuple #[]) ∧ CompAt w' c rq g mc B { s with pc := s.pc + 1 } 0 ∧ Below B w w' := by
  have hcl := h.lt
  have HXa := Lib.hid (cdAt_new w x 68)
  have hb0 := (Below.refl w.heap.size w).alloc (Nat.le_refl _) (.cells #[.int .i64 x.op, .int .i64 x.d, .int .i64 x.a, .int .i64 x.b, .int .u32 x.im, .int .i64 x.to] 68)
  have HCa := Lib.hid (h.below hb0)
  have hBw : B ≤ w.heap.size := by have := h.far.1; omega
  have HBa := Lib.hid (hb0.mono hBw)
  have HFar := Lib.hid h.far
  clear h hb0
  obtain ⟨x0, x1, x2, x3, x4, x5⟩ := x
  simp only at *
  have HXb : Hid (CdAt (w.alloc (.cells #[.int .i64 x0, .int .i64 x1, .int .i64 x2, .int .i64 x3, .int .u32 x4, .int .i64 x5] 68)) w.heap.size 0 ⟨x0, x1, x2, x3, x4, x5⟩) := HXa
  have HCb : Hid (CompAt (w.alloc (.cells #[.int .i64 x0, .int .i64 x1, .int .i64 x2, .int .i64 x3, .int .u32 x4, .int .i64 x5] 68)) c rq g mc B s 0) := HCa
  have HBb : Hid (Below B w (w.alloc (.cells #[.int .i64 x0, .int .i64 x1, .int .i64 x2, .int .i64 x3, .int .u32 x4, .int .i64 x5] 68))) := HBa
  have HO := Lib.hid ho
  clear ho
  clear HXa HCa HBa
  go_enter Tryz.func40, Tryz.ntmps40
  go_upto_region 1 with (fail)
  generalize hw0 : w.alloc _ = w0
  generalize hq : w.heap.size = qx
  have HX : Hid (CdAt w0 qx 0 ⟨x0, x1, x2, x3, x4, x5⟩) := by subst hw0 hq; exact HXb
  have HC0 : Hid (CompAt w0 c rq g mc B s 0) := by subst hw0; exact HCb
  have HB0 : Hid (Below B w w0) := by subst hw0; exact HBb
  have hqc : qx ≠ c := by omega
  have hqB : B ≤ qx := by omega
  clear hw0 hq HXb HCb HBb
  have d3 := HC0.out.c3
  have f3 := HC0.out.free 3
  go_upto_region 3 with (fail)
  have HC1 : Hid (CompAt (w0.setCell ⟨c, 3, none⟩ (.int .i64 ((s.pc : Int) + 1))) c rq g mc B { s with pc := s.pc + 1 } 0) := Lib.hid (HC0.out.setPc (s.pc + 1))
  have HX1 : Hid (CdAt (w0.setCell ⟨c, 3, none⟩ (.int .i64 ((s.pc : Int) + 1))) qx 0 ⟨x0, x1, x2, x3, x4, x5⟩) := Lib.hid (HX.out.setOther hqc)
  have HB1 : Hid (Below B w (w0.setCell ⟨c, 3, none⟩ (.int .i64 ((s.pc : Int) + 1)))) := Lib.hid (HB0.out.setCell HFar.out.1 _)
  clear d3 f3 HC0 HX HB0
  generalize w0.setCell ⟨c, 3, none⟩ (.int .i64 ((s.pc : Int) + 1)) = w1 at *
  obtain ⟨k0, k1, k2, k3, k4, k5⟩ := cell_six_in0 HX1.out
  simp only at k0 k1 k2 k3 k4 k5
  have d0 := HC1.out.c0; have d1 := HC1.out.c1; have d2 := HC1.out.c2; have d3 := HC1.out.c3; have d4 := HC1.out.c4
  have f2 := HC1.out.free 2; have f3 := HC1.out.free 3; have f4 := HC1.out.free 4
  simp only at d0 d1 d2 d3 d4
  have ho := HO.out
  clear HO
  subst ho
  obtain ⟨nt, rfl⟩ : ∃ nt : Nat, x5 = (nt : Int) := ⟨x5.toNat, by omega⟩
  obtain ⟨na, rfl⟩ : ∃ na : Nat, x2 = (na : Int) := ⟨x2.toNat, by omega⟩
  have hna : na < s.rg.length := by omega
  have hai : (na : Int) < (s.rg.length : Int) := by omega
  have ha0 : (0 : Int) ≤ (na : Int) := by omega
  have hca := HC1.out.u.cell hna
  have HVa : Hid (s.rg.getD na 0 = 0) := Lib.hid (by simpa using hv)
  generalize s.rg.getD na 0 = va at *
  have hva := HVa.out
  clear hv
  go_wp2_with fail
  go_quiet (fail)
  have HCq : Hid (CompAt (w1.drewN nq) c rq g mc B { s with pc := s.pc + 1 } 0) := Lib.hid ⟨HC1.out.blk, HC1.out.u, HC1.out.m, HC1.out.far⟩
  have HBq := Lib.hid (below_drewN HB1.out nq)
  have k5q : (w1.drewN nq).cell? ⟨qx, 5, none⟩ = some (.int .i64 (nt : Int)) := k5
  clear k0 k1 k2 k3 k4 k5 d0 d1 d2 d3 d4 f2 f3 f4 hca HC1 HB1 HX1
  generalize w1.drewN nq = wq at *
  go_wp2_with fail
  go_end0
  exact ⟨rfl, HCq.out, HBq.out⟩
set_option maxRecDepth 100000 in
set_option maxHeartbeats 4000000 in
theorem sstep_op {x : Cd} {s : Mach} {c rq g mc B : Nat} {w : World} (h : CompAt w c rq g mc B s 0) (hpc : s.pc < 9223372036854775807) (ho : 2 ≤ x.op ∧ x.op ≤ 17) (hd : 0 ≤ x.d ∧ x.d < s.rg.length) (ha : 0 ≤ x.a ∧ x.a < s.rg.length) (hb : 0 ≤ x.b ∧ x.b < s.rg.length) (hW : ∀ v ∈ s.rg, isW v) (hk : brkF x.op (s.rg.getD x.a.toNat 0) (s.rg.getD x.b.toNat 0) = false) :
    Calls Tryz.prog 40 #[.pointer (some ⟨c, 0, none⟩), (.agg #[.int .i64 x.op, .int .i64 x.d, .int .i64 x.a, .int .i64 x.b, .int .u32 x.im, .int .i64 x.to])] w fun e w' => e = .returned (.tuple #[]) ∧ CompAt w' c rq g mc B { s with pc := s.pc + 1, rg := s.rg.set x.d.toNat (resF x.op (s.rg.getD x.a.toNat 0) (s.rg.getD x.b.toNat 0)) } 0 ∧ Below B w w' := by
  have hcl := h.lt
  have HXa := Lib.hid (cdAt_new w x 68)
  have hb0 := (Below.refl w.heap.size w).alloc (Nat.le_refl _) (.cells #[.int .i64 x.op, .int .i64 x.d, .int .i64 x.a, .int .i64 x.b, .int .u32 x.im, .int .i64 x.to] 68)
  have HCa := Lib.hid (h.below hb0)
  have hBw : B ≤ w.heap.size := by have := h.far.1; omega
  have HBa := Lib.hid (hb0.mono hBw)
  have HFar := Lib.hid h.far
  clear h hb0
  obtain ⟨x0, x1, x2, x3, x4, x5⟩ := x
  simp only at *
  have HXb : Hid (CdAt (w.alloc (.cells #[.int .i64 x0, .int .i64 x1, .int .i64 x2, .int .i64 x3, .int .u32 x4, .int .i64 x5] 68)) w.heap.size 0 ⟨x0, x1, x2, x3, x4, x5⟩) := HXa
  have HCb : Hid (CompAt (w.alloc (.cells #[.int .i64 x0, .int .i64 x1, .int .i64 x2, .int .i64 x3, .int .u32 x4, .int .i64 x5] 68)) c rq g mc B s 0) := HCa
  have HBb : Hid (Below B w (w.alloc (.cells #[.int .i64 x0, .int .i64 x1, .int .i64 x2, .int .i64 x3, .int .u32 x4, .int .i64 x5] 68))) := HBa
  have HO := Lib.hid ho
  clear ho
  clear HXa HCa HBa
  go_enter Tryz.func40, Tryz.ntmps40
  go_upto_region 1 with (fail)
  generalize hw0 : w.alloc _ = w0
  generalize hq : w.heap.size = qx
  have HX : Hid (CdAt w0 qx 0 ⟨x0, x1, x2, x3, x4, x5⟩) := by subst hw0 hq; exact HXb
  have HC0 : Hid (CompAt w0 c rq g mc B s 0) := by subst hw0; exact HCb
  have HB0 : Hid (Below B w w0) := by subst hw0; exact HBb
  have hqc : qx ≠ c := by omega
  have hqB : B ≤ qx := by omega
  clear hw0 hq HXb HCb HBb
  have d3 := HC0.out.c3
  have f3 := HC0.out.free 3
  go_upto_region 3 with (fail)
  have HC1 : Hid (CompAt (w0.setCell ⟨c, 3, none⟩ (.int .i64 ((s.pc : Int) + 1))) c rq g mc B { s with pc := s.pc + 1 } 0) := Lib.hid (HC0.out.setPc (s.pc + 1))
  have HX1 : Hid (CdAt (w0.setCell ⟨c, 3, none⟩ (.int .i64 ((s.pc : Int) + 1))) qx 0 ⟨x0, x1, x2, x3, x4, x5⟩) := Lib.hid (HX.out.setOther hqc)
  have HB1 : Hid (Below B w (w0.setCell ⟨c, 3, none⟩ (.int .i64 ((s.pc : Int) + 1)))) := Lib.hid (HB0.out.setCell HFar.out.1 _)
  clear d3 f3 HC0 HX HB0
  generalize w0.setCell ⟨c, 3, none⟩ (.int .i64 ((s.pc : Int) + 1)) = w1 at *
  obtain ⟨k0, k1, k2, k3, k4, k5⟩ := cell_six_in0 HX1.out
  simp only at k0 k1 k2 k3 k4 k5
  have d0 := HC1.out.c0; have d1 := HC1.out.c1; have d2 := HC1.out.c2; have d3 := HC1.out.c3; have d4 := HC1.out.c4
  have f2 := HC1.out.free 2; have f3 := HC1.out.free 3; have f4 := HC1.out.free 4
  simp only at d0 d1 d2 d3 d4
  have ho := HO.out
  clear HO
  have HK := Lib.hid hk
  clear hk
  have HWr := Lib.hid hW
  clear hW
  have hq0 : (x0 == 0) = false := by simp; omega
  have hq1 : (x0 == 1) = false := by simp; omega
  have hg2 : decide (2 ≤ x0) = true := decide_eq_true (by omega)
  obtain ⟨na, rfl⟩ : ∃ na : Nat, x2 = (na : Int) := ⟨x2.toNat, by omega⟩
  have hna : na < s.rg.length := by omega
  have hai : (na : Int) < (s.rg.length : Int) := by omega
  have ha0 : (0 : Int) ≤ (na : Int) := by omega
  have hca := HC1.out.u.cell hna
  obtain ⟨nb, rfl⟩ : ∃ nb : Nat, x3 = (nb : Int) := ⟨x3.toNat, by omega⟩
  have hnb : nb < s.rg.length := by omega
  have hbi : (nb : Int) < (s.rg.length : Int) := by omega
  have hb0 : (0 : Int) ≤ (nb : Int) := by omega
  have hcb := HC1.out.u.cell hnb
  have hur := HC1.out.u
  have hfr := fun k => hur.free k
  have hdl : (x1.toNat : Int) = x1 := by omega
  obtain ⟨nd, rfl⟩ : ∃ nd : Nat, x1 = (nd : Int) := ⟨x1.toNat, by omega⟩
  have hnd : nd < s.rg.length := by omega
  have hdi : (nd : Int) < (s.rg.length : Int) := by omega
  have hcd := hur.cell hnd
  have hfd := hfr nd
  have hd0 : (0 : Int) ≤ (nd : Int) := by omega
  clear hfr hdl hur
  generalize s.rg.getD nd 0 = vold at *
  have hl17 : decide (x0 ≤ 17) = true := decide_eq_true (by omega)
  have HCalc := Lib.hid (fun w => calc_any ho (getD_w HWr.out na) (getD_w HWr.out nb) w)
  generalize hva : s.rg.getD na 0 = va at *
  generalize hvb : s.rg.getD nb 0 = vb at *
  have HVa := Lib.hid hva
  have HVb := Lib.hid hvb
  clear hva hvb
  have hk2 : brkF x0 va vb = false := by rw [← HVa.out, ← HVb.out]; simpa using HK.out
  clear HK
  rw [hk2] at HCalc
  simp only [Bool.false_eq_true, if_false, Bool.not_false] at HCalc
  have HRes : Hid (resF x0 (s.rg.getD na 0) (s.rg.getD nb 0) = resF x0 va vb) := Lib.hid (by rw [HVa.out, HVb.out])
  generalize resF x0 va vb = rv at *
  go_wp2_with fail
  go_quiet ((go_at_call 80; first | exact quietS (HCalc.out _) | exact quietSn (HCalc.out _)))
  have HCq : Hid (CompAt (w1.drewN nq) c rq g mc B { s with pc := s.pc + 1 } 0) := Lib.hid ⟨HC1.out.blk, HC1.out.u, HC1.out.m, HC1.out.far⟩
  have HBq := Lib.hid (below_drewN HB1.out nq)
  have k1q : (w1.drewN nq).cell? ⟨qx, 1, none⟩ = some (.int .i64 (nd : Int)) := k1
  have d0q := HCq.out.c0; have d4q := HCq.out.c4
  have f4q := HCq.out.free 4
  simp only at d0q d4q
  have hcdq : (w1.drewN nq).cell? ⟨rq, nd, none⟩ = some (.int .u32 vold) := hcd
  have hfdq : (w1.drewN nq).frozen? ⟨rq, nd, none⟩ = false := hfd
  clear k0 k1 k2 k3 k4 k5 d0 d1 d2 d3 d4 f2 f3 f4 hca hcb hcd hfd HC1 HB1 HX1
  generalize w1.drewN nq = wq at *
  go_wp2_with fail
  refine wp_region_still_tail 8 (by kernel_rfl) (by kernel_rfl) ?_
  simp only [List.take_succ_cons, List.take_zero, List.drop_succ_cons, List.drop_zero]
  repeat still_step
  refine wpStill_nil ?_
  change wpList _ _ _ _ _ wq.drew
  have HCd : Hid (CompAt wq.drew c rq g mc B { s with pc := s.pc + 1 } 0) := Lib.hid HCq.out.drew
  have HBd := Lib.hid (below_drew1 HBq.out)
  have hcd : wq.drew.cell? ⟨rq, nd, none⟩ = some (.int .u32 vold) := hcdq
  have hfd : wq.drew.frozen? ⟨rq, nd, none⟩ = false := hfdq
  clear HCq HBq hcdq hfdq k1q d0q d4q f4q
  generalize wq.drew = w2 at *
  go_wp2_with fail
  go_end0
  exact ⟨rfl, by simp only [Int.toNat_natCast]; rw [HRes.out]; exact HCd.out.setReg nd rv, HBd.out.setCell HFar.out.2.1 _⟩
set_option maxRecDepth 100000 in
set_option maxHeartbeats 4000000 in
theorem sstep_brk {x : Cd} {s : Mach} {c rq g mc B : Nat} {w : World} (h : CompAt w c rq g mc B s 0) (hpc : s.pc < 9223372036854775807) (ho : 2 ≤ x.op ∧ x.op ≤ 17) (hd : 0 ≤ x.d ∧ x.d < s.rg.length) (ha : 0 ≤ x.a ∧ x.a < s.rg.length) (hb : 0 ≤ x.b ∧ x.b < s.rg.length) (hW : ∀ v ∈ s.rg, isW v) (hk : brkF x.op (s.rg.getD x.a.toNat 0) (s.rg.getD x.b.toNat 0) = true) :
    Calls Tryz.prog 40 #[.pointer (some ⟨c, 0, none⟩), (.agg #[.int .i64 x.op, .int .i64 x.d, .int .i64 x.a, .int .i64 x.b, .int .u32 x.im, .int .i64 x.to])] w fun e w' => e = .returned (.tuple #[]) ∧ CompAt w' c rq g mc B { s with pc := s.pc + 1 } 5 ∧ Below B w w' := by
  have hcl := h.lt
  have HXa := Lib.hid (cdAt_new w x 68)
  have hb0 := (Below.refl w.heap.size w).alloc (Nat.le_refl _) (.cells #[.int .i64 x.op, .int .i64 x.d, .int .i64 x.a, .int .i64 x.b, .int .u32 x.im, .int .i64 x.to] 68)
  have HCa := Lib.hid (h.below hb0)
  have hBw : B ≤ w.heap.size := by have := h.far.1; omega
  have HBa := Lib.hid (hb0.mono hBw)
  have HFar := Lib.hid h.far
  clear h hb0
  obtain ⟨x0, x1, x2, x3, x4, x5⟩ := x
  simp only at *
  have HXb : Hid (CdAt (w.alloc (.cells #[.int .i64 x0, .int .i64 x1, .int .i64 x2, .int .i64 x3, .int .u32 x4, .int .i64 x5] 68)) w.heap.size 0 ⟨x0, x1, x2, x3, x4, x5⟩) := HXa
  have HCb : Hid (CompAt (w.alloc (.cells #[.int .i64 x0, .int .i64 x1, .int .i64 x2, .int .i64 x3, .int .u32 x4, .int .i64 x5] 68)) c rq g mc B s 0) := HCa
  have HBb : Hid (Below B w (w.alloc (.cells #[.int .i64 x0, .int .i64 x1, .int .i64 x2, .int .i64 x3, .int .u32 x4, .int .i64 x5] 68))) := HBa
  have HO := Lib.hid ho
  clear ho
  clear HXa HCa HBa
  go_enter Tryz.func40, Tryz.ntmps40
  go_upto_region 1 with (fail)
  generalize hw0 : w.alloc _ = w0
  generalize hq : w.heap.size = qx
  have HX : Hid (CdAt w0 qx 0 ⟨x0, x1, x2, x3, x4, x5⟩) := by subst hw0 hq; exact HXb
  have HC0 : Hid (CompAt w0 c rq g mc B s 0) := by subst hw0; exact HCb
  have HB0 : Hid (Below B w w0) := by subst hw0; exact HBb
  have hqc : qx ≠ c := by omega
  have hqB : B ≤ qx := by omega
  clear hw0 hq HXb HCb HBb
  have d3 := HC0.out.c3
  have f3 := HC0.out.free 3
  go_upto_region 3 with (fail)
  have HC1 : Hid (CompAt (w0.setCell ⟨c, 3, none⟩ (.int .i64 ((s.pc : Int) + 1))) c rq g mc B { s with pc := s.pc + 1 } 0) := Lib.hid (HC0.out.setPc (s.pc + 1))
  have HX1 : Hid (CdAt (w0.setCell ⟨c, 3, none⟩ (.int .i64 ((s.pc : Int) + 1))) qx 0 ⟨x0, x1, x2, x3, x4, x5⟩) := Lib.hid (HX.out.setOther hqc)
  have HB1 : Hid (Below B w (w0.setCell ⟨c, 3, none⟩ (.int .i64 ((s.pc : Int) + 1)))) := Lib.hid (HB0.out.setCell HFar.out.1 _)
  clear d3 f3 HC0 HX HB0
  generalize w0.setCell ⟨c, 3, none⟩ (.int .i64 ((s.pc : Int) + 1)) = w1 at *
  obtain ⟨k0, k1, k2, k3, k4, k5⟩ := cell_six_in0 HX1.out
  simp only at k0 k1 k2 k3 k4 k5
  have d0 := HC1.out.c0; have d1 := HC1.out.c1; have d2 := HC1.out.c2; have d3 := HC1.out.c3; have d4 := HC1.out.c4
  have f2 := HC1.out.free 2; have f3 := HC1.out.free 3; have f4 := HC1.out.free 4
  simp only at d0 d1 d2 d3 d4
  have ho := HO.out
  clear HO
  have HK := Lib.hid hk
  clear hk
  have HWr := Lib.hid hW
  clear hW
  have hq0 : (x0 == 0) = false := by simp; omega
  have hq1 : (x0 == 1) = false := by simp; omega
  have hg2 : decide (2 ≤ x0) = true := decide_eq_true (by omega)
  obtain ⟨na, rfl⟩ : ∃ na : Nat, x2 = (na : Int) := ⟨x2.toNat, by omega⟩
  have hna : na < s.rg.length := by omega
  have hai : (na : Int) < (s.rg.length : Int) := by omega
  have ha0 : (0 : Int) ≤ (na : Int) := by omega
  have hca := HC1.out.u.cell hna
  obtain ⟨nb, rfl⟩ : ∃ nb : Nat, x3 = (nb : Int) := ⟨x3.toNat, by omega⟩
  have hnb : nb < s.rg.length := by omega
  have hbi : (nb : Int) < (s.rg.length : Int) := by omega
  have hb0 : (0 : Int) ≤ (nb : Int) := by omega
  have hcb := HC1.out.u.cell hnb
  have hur := HC1.out.u
  have hfr := fun k => hur.free k
  have hdl : (x1.toNat : Int) = x1 := by omega
  obtain ⟨nd, rfl⟩ : ∃ nd : Nat, x1 = (nd : Int) := ⟨x1.toNat, by omega⟩
  have hnd : nd < s.rg.length := by omega
  have hdi : (nd : Int) < (s.rg.length : Int) := by omega
  have hcd := hur.cell hnd
  have hfd := hfr nd
  have hd0 : (0 : Int) ≤ (nd : Int) := by omega
  clear hfr hdl hur
  generalize s.rg.getD nd 0 = vold at *
  have hl17 : decide (x0 ≤ 17) = true := decide_eq_true (by omega)
  have HCalc := Lib.hid (fun w => calc_any ho (getD_w HWr.out na) (getD_w HWr.out nb) w)
  generalize hva : s.rg.getD na 0 = va at *
  generalize hvb : s.rg.getD nb 0 = vb at *
  have HVa := Lib.hid hva
  have HVb := Lib.hid hvb
  clear hva hvb
  have hk2 : brkF x0 va vb = true := by rw [← HVa.out, ← HVb.out]; simpa using HK.out
  clear HK
  rw [hk2] at HCalc
  simp only [if_true, Bool.not_true] at HCalc
  go_wp2_with fail
  go_quiet ((go_at_call 80; first | exact quietS (HCalc.out _) | exact quietSn (HCalc.out _)))
  have HCq : Hid (CompAt (w1.drewN nq) c rq g mc B { s with pc := s.pc + 1 } 0) := Lib.hid ⟨HC1.out.blk, HC1.out.u, HC1.out.m, HC1.out.far⟩
  have HBq := Lib.hid (below_drewN HB1.out nq)
  have k1q : (w1.drewN nq).cell? ⟨qx, 1, none⟩ = some (.int .i64 (nd : Int)) := k1
  have d0q := HCq.out.c0; have d4q := HCq.out.c4
  have f4q := HCq.out.free 4
  simp only at d0q d4q
  have hcdq : (w1.drewN nq).cell? ⟨rq, nd, none⟩ = some (.int .u32 vold) := hcd
  have hfdq : (w1.drewN nq).frozen? ⟨rq, nd, none⟩ = false := hfd
  clear k0 k1 k2 k3 k4 k5 d0 d1 d2 d3 d4 f2 f3 f4 hca hcb hcd hfd HC1 HB1 HX1
  generalize w1.drewN nq = wq at *
  go_wp2_with fail
  ((try simp only [Exit.inBlock, Exit.then]); refine bodyPost_ret (results_none rfl _ _ _) rfl ?_)
  exact ⟨rfl, HCq.out.setEnd 5, HBq.out.setCell HFar.out.1 _⟩
set_option maxRecDepth 100000 in
set_option maxHeartbeats 4000000 in
theorem sstep_fault {x : Cd} {s : Mach} {c rq g mc B : Nat} {w : World} (h : CompAt w c rq g mc B s 0) (hpc : s.pc < 9223372036854775807) (ho : 18 ≤ x.op ∧ x.op ≤ 23) (ha : x.a < s.rg.length) (hW : ∀ v ∈ s.rg, isW v) (him : (x.im : Int) < 4294967296) (hin : s.mem.length < plc s x + nB x.op) :
    Calls Tryz.prog 40 #[.pointer (some ⟨c, 0, none⟩), (.agg #[.int .i64 x.op, .int .i64 x.d, .int .i64 x.a, .int .i64 x.b, .int .u32 x.im, .int .i64 x.to])] w fun e w' => e = .returned (.tuple #[]) ∧ CompAt w' c rq g mc B { s with pc := s.pc + 1 } 3 ∧ Below B w w' := by
  have hcl := h.lt
  have HXa := Lib.hid (cdAt_new w x 68)
  have hb0 := (Below.refl w.heap.size w).alloc (Nat.le_refl _) (.cells #[.int .i64 x.op, .int .i64 x.d, .int .i64 x.a, .int .i64 x.b, .int .u32 x.im, .int .i64 x.to] 68)
  have HCa := Lib.hid (h.below hb0)
  have hBw : B ≤ w.heap.size := by have := h.far.1; omega
  have HBa := Lib.hid (hb0.mono hBw)
  have HFar := Lib.hid h.far
  clear h hb0
  obtain ⟨x0, x1, x2, x3, x4, x5⟩ := x
  simp only at *
  have HXb : Hid (CdAt (w.alloc (.cells #[.int .i64 x0, .int .i64 x1, .int .i64 x2, .int .i64 x3, .int .u32 x4, .int .i64 x5] 68)) w.heap.size 0 ⟨x0, x1, x2, x3, x4, x5⟩) := HXa
  have HCb : Hid (CompAt (w.alloc (.cells #[.int .i64 x0, .int .i64 x1, .int .i64 x2, .int .i64 x3, .int .u32 x4, .int .i64 x5] 68)) c rq g mc B s 0) := HCa
  have HBb : Hid (Below B w (w.alloc (.cells #[.int .i64 x0, .int .i64 x1, .int .i64 x2, .int .i64 x3, .int .u32 x4, .int .i64 x5] 68))) := HBa
  have HO := Lib.hid ho
  clear ho
  clear HXa HCa HBa
  go_enter Tryz.func40, Tryz.ntmps40
  go_upto_region 1 with (fail)
  generalize hw0 : w.alloc _ = w0
  generalize hq : w.heap.size = qx
  have HX : Hid (CdAt w0 qx 0 ⟨x0, x1, x2, x3, x4, x5⟩) := by subst hw0 hq; exact HXb
  have HC0 : Hid (CompAt w0 c rq g mc B s 0) := by subst hw0; exact HCb
  have HB0 : Hid (Below B w w0) := by subst hw0; exact HBb
  have hqc : qx ≠ c := by omega
  have hqB : B ≤ qx := by omega
  clear hw0 hq HXb HCb HBb
  have d3 := HC0.out.c3
  have f3 := HC0.out.free 3
  go_upto_region 3 with (fail)
  have HC1 : Hid (CompAt (w0.setCell ⟨c, 3, none⟩ (.int .i64 ((s.pc : Int) + 1))) c rq g mc B { s with pc := s.pc + 1 } 0) := Lib.hid (HC0.out.setPc (s.pc + 1))
  have HX1 : Hid (CdAt (w0.setCell ⟨c, 3, none⟩ (.int .i64 ((s.pc : Int) + 1))) qx 0 ⟨x0, x1, x2, x3, x4, x5⟩) := Lib.hid (HX.out.setOther hqc)
  have HB1 : Hid (Below B w (w0.setCell ⟨c, 3, none⟩ (.int .i64 ((s.pc : Int) + 1)))) := Lib.hid (HB0.out.setCell HFar.out.1 _)
  clear d3 f3 HC0 HX HB0
  generalize w0.setCell ⟨c, 3, none⟩ (.int .i64 ((s.pc : Int) + 1)) = w1 at *
  obtain ⟨k0, k1, k2, k3, k4, k5⟩ := cell_six_in0 HX1.out
  simp only at k0 k1 k2 k3 k4 k5
  have d0 := HC1.out.c0; have d1 := HC1.out.c1; have d2 := HC1.out.c2; have d3 := HC1.out.c3; have d4 := HC1.out.c4
  have f2 := HC1.out.free 2; have f3 := HC1.out.free 3; have f4 := HC1.out.free 4
  simp only at d0 d1 d2 d3 d4
  have ho := HO.out
  clear HO
  have hq0 : (x0 == 0) = false := by simp; omega
  have hq1 : (x0 == 1) = false := by simp; omega
  have hg2 : decide (2 ≤ x0) = true := decide_eq_true (by omega)
  have hl17 : decide (x0 ≤ 17) = false := decide_eq_false (by omega)
  have hg18 : decide (18 ≤ x0) = true := decide_eq_true (by omega)
  have hl23 : decide (x0 ≤ 23) = true := decide_eq_true (by omega)
  have HAd := Lib.hid (addr_any (x := ⟨x0, x1, x2, x3, x4, x5⟩) HC1.out hW him ho ha)
  have HPl : Hid (plc { s with pc := s.pc + 1 } ⟨x0, x1, x2, x3, x4, x5⟩ = plc s ⟨x0, x1, x2, x3, x4, x5⟩) := Lib.hid rfl
  rw [HPl.out] at HAd
  simp only at HAd
  clear HPl
  obtain ⟨pl, hpl⟩ : ∃ p, plc s ⟨x0, x1, x2, x3, x4, x5⟩ = p := ⟨_, rfl⟩
  obtain ⟨by0, hby⟩ : ∃ p, nB x0 = p := ⟨_, rfl⟩
  have hn3 := nB_three x0
  have HByt := Lib.hid (fun w => flipC (sbytes_any ho w))
  rw [hpl, hby] at hin HAd
  rw [hby] at hn3 HByt
  have HPE := Lib.hid hpl
  have HNE := Lib.hid hby
  have HN3 := Lib.hid hn3
  clear hpl hby hn3
  have HIn : Hid (decide (pl + by0 ≤ s.mem.length) = false) := Lib.hid (decide_eq_false (by omega))
  clear hin HByt
  rw [show decide (pl + by0 ≤ s.mem.length) = false from HIn.out] at HAd
  go_wp2_with fail
  refine HAd.out.mono ?_
  rintro e w4 ⟨rfl, hb4⟩
  have HC4 := Lib.hid (HC1.out.below hb4)
  have HB4 := Lib.hid (HB1.out.trans (hb4.mono (Nat.le_of_lt (Nat.lt_of_le_of_lt HFar.out.1 HC1.out.lt))))
  have k0 := keep k0 hb4; have k1 := keep k1 hb4; have k3 := keep k3 hb4
  have d0 := HC4.out.c0; have d1 := HC4.out.c1; have d4 := HC4.out.c4
  have f4 := HC4.out.free 4
  simp only at d0 d1 d4
  clear hb4 HC1 HB1 HX1 HAd
  go_wp2_with fail
  go_end0
  exact ⟨rfl, HC4.out.setEnd 3, HB4.out.setCell HFar.out.1 _⟩
set_option maxRecDepth 100000 in
set_option maxHeartbeats 4000000 in
theorem sstep_ld {x : Cd} {s : Mach} {c rq g mc B : Nat} {w : World} (h : CompAt w c rq g mc B s 0) (hpc : s.pc < 9223372036854775807) (ho : 18 ≤ x.op ∧ x.op ≤ 23) (ha : x.a < s.rg.length) (hW : ∀ v ∈ s.rg, isW v) (him : (x.im : Int) < 4294967296) (hml : s.mem.length ≤ 1000000) (h20 : x.op ≤ 20) (hd : 0 ≤ x.d ∧ x.d < s.rg.length) (hin : plc s x + nB x.op ≤ s.mem.length) (hB : ∀ v ∈ s.mem, isB v) :
    Calls Tryz.prog 40 #[.pointer (some ⟨c, 0, none⟩), (.agg #[.int .i64 x.op, .int .i64 x.d, .int .i64 x.a, .int .i64 x.b, .int .u32 x.im, .int .i64 x.to])] w fun e w' => e = .returned (.tuple #[]) ∧ CompAt w' c rq g mc B { s with pc := s.pc + 1, rg := s.rg.set x.d.toNat (rdF s.mem (plc s x) (nB x.op)) } 0 ∧ Below B w w' := by
  have hcl := h.lt
  have HXa := Lib.hid (cdAt_new w x 68)
  have hb0 := (Below.refl w.heap.size w).alloc (Nat.le_refl _) (.cells #[.int .i64 x.op, .int .i64 x.d, .int .i64 x.a, .int .i64 x.b, .int .u32 x.im, .int .i64 x.to] 68)
  have HCa := Lib.hid (h.below hb0)
  have hBw : B ≤ w.heap.size := by have := h.far.1; omega
  have HBa := Lib.hid (hb0.mono hBw)
  have HFar := Lib.hid h.far
  clear h hb0
  obtain ⟨x0, x1, x2, x3, x4, x5⟩ := x
  simp only at *
  have HXb : Hid (CdAt (w.alloc (.cells #[.int .i64 x0, .int .i64 x1, .int .i64 x2, .int .i64 x3, .int .u32 x4, .int .i64 x5] 68)) w.heap.size 0 ⟨x0, x1, x2, x3, x4, x5⟩) := HXa
  have HCb : Hid (CompAt (w.alloc (.cells #[.int .i64 x0, .int .i64 x1, .int .i64 x2, .int .i64 x3, .int .u32 x4, .int .i64 x5] 68)) c rq g mc B s 0) := HCa
  have HBb : Hid (Below B w (w.alloc (.cells #[.int .i64 x0, .int .i64 x1, .int .i64 x2, .int .i64 x3, .int .u32 x4, .int .i64 x5] 68))) := HBa
  have HO := Lib.hid ho
  clear ho
  clear HXa HCa HBa
  go_enter Tryz.func40, Tryz.ntmps40
  go_upto_region 1 with (fail)
  generalize hw0 : w.alloc _ = w0
  generalize hq : w.heap.size = qx
  have HX : Hid (CdAt w0 qx 0 ⟨x0, x1, x2, x3, x4, x5⟩) := by subst hw0 hq; exact HXb
  have HC0 : Hid (CompAt w0 c rq g mc B s 0) := by subst hw0; exact HCb
  have HB0 : Hid (Below B w w0) := by subst hw0; exact HBb
  have hqc : qx ≠ c := by omega
  have hqB : B ≤ qx := by omega
  clear hw0 hq HXb HCb HBb
  have d3 := HC0.out.c3
  have f3 := HC0.out.free 3
  go_upto_region 3 with (fail)
  have HC1 : Hid (CompAt (w0.setCell ⟨c, 3, none⟩ (.int .i64 ((s.pc : Int) + 1))) c rq g mc B { s with pc := s.pc + 1 } 0) := Lib.hid (HC0.out.setPc (s.pc + 1))
  have HX1 : Hid (CdAt (w0.setCell ⟨c, 3, none⟩ (.int .i64 ((s.pc : Int) + 1))) qx 0 ⟨x0, x1, x2, x3, x4, x5⟩) := Lib.hid (HX.out.setOther hqc)
  have HB1 : Hid (Below B w (w0.setCell ⟨c, 3, none⟩ (.int .i64 ((s.pc : Int) + 1)))) := Lib.hid (HB0.out.setCell HFar.out.1 _)
  clear d3 f3 HC0 HX HB0
  generalize w0.setCell ⟨c, 3, none⟩ (.int .i64 ((s.pc : Int) + 1)) = w1 at *
  obtain ⟨k0, k1, k2, k3, k4, k5⟩ := cell_six_in0 HX1.out
  simp only at k0 k1 k2 k3 k4 k5
  have d0 := HC1.out.c0; have d1 := HC1.out.c1; have d2 := HC1.out.c2; have d3 := HC1.out.c3; have d4 := HC1.out.c4
  have f2 := HC1.out.free 2; have f3 := HC1.out.free 3; have f4 := HC1.out.free 4
  simp only at d0 d1 d2 d3 d4
  have ho := HO.out
  clear HO
  have hq0 : (x0 == 0) = false := by simp; omega
  have hq1 : (x0 == 1) = false := by simp; omega
  have hg2 : decide (2 ≤ x0) = true := decide_eq_true (by omega)
  have hl17 : decide (x0 ≤ 17) = false := decide_eq_false (by omega)
  have hg18 : decide (18 ≤ x0) = true := decide_eq_true (by omega)
  have hl23 : decide (x0 ≤ 23) = true := decide_eq_true (by omega)
  have hl20 : decide (x0 ≤ 20) = true := decide_eq_true h20
  have HAd := Lib.hid (addr_any (x := ⟨x0, x1, x2, x3, x4, x5⟩) HC1.out hW him ho ha)
  have HPl : Hid (plc { s with pc := s.pc + 1 } ⟨x0, x1, x2, x3, x4, x5⟩ = plc s ⟨x0, x1, x2, x3, x4, x5⟩) := Lib.hid rfl
  rw [HPl.out] at HAd
  simp only at HAd
  clear HPl
  obtain ⟨pl, hpl⟩ : ∃ p, plc s ⟨x0, x1, x2, x3, x4, x5⟩ = p := ⟨_, rfl⟩
  obtain ⟨by0, hby⟩ : ∃ p, nB x0 = p := ⟨_, rfl⟩
  have hn3 := nB_three x0
  have HByt := Lib.hid (fun w => flipC (sbytes_any ho w))
  rw [hpl, hby] at hin HAd
  rw [hby] at hn3 HByt
  have HPE := Lib.hid hpl
  have HNE := Lib.hid hby
  have HN3 := Lib.hid hn3
  clear hpl hby hn3
  have HIn : Hid (decide (pl + by0 ≤ s.mem.length) = true) := Lib.hid (decide_eq_true hin)
  rw [show decide (pl + by0 ≤ s.mem.length) = true from HIn.out] at HAd
  go_wp2_with fail
  refine HAd.out.mono ?_
  rintro e w4 ⟨rfl, hb4⟩
  have HC4 := Lib.hid (HC1.out.below hb4)
  have HB4 := Lib.hid (HB1.out.trans (hb4.mono (Nat.le_of_lt (Nat.lt_of_le_of_lt HFar.out.1 HC1.out.lt))))
  have k0 := keep k0 hb4; have k1 := keep k1 hb4; have k3 := keep k3 hb4
  have d0 := HC4.out.c0; have d1 := HC4.out.c1; have d4 := HC4.out.c4
  have f4 := HC4.out.free 4
  simp only at d0 d1 d4
  clear hb4 HC1 HB1 HX1 HAd
  have hur := HC4.out.u
  have hfr := fun k => hur.free k
  have hdl : (x1.toNat : Int) = x1 := by omega
  obtain ⟨nd, rfl⟩ : ∃ nd : Nat, x1 = (nd : Int) := ⟨x1.toNat, by omega⟩
  have hnd : nd < s.rg.length := by omega
  have hdi : (nd : Int) < (s.rg.length : Int) := by omega
  have hcd := hur.cell hnd
  have hfd := hfr nd
  have hd0 : (0 : Int) ≤ (nd : Int) := by omega
  clear hfr hdl hur
  generalize s.rg.getD nd 0 = vold at *
  have HGet := Lib.hid (flipC (get_any s.mem (some ⟨g, 0, none⟩) mc pl by0 w4.drew (bin_owns HC4.out.drew.m) hB hml hin HN3.out))
  obtain ⟨rv, hrv⟩ : ∃ v, rdF s.mem pl by0 = v := ⟨_, rfl⟩
  rw [hrv] at HGet
  have HRE := Lib.hid hrv
  clear hin HIn hB hrv
  go_wp2_with fail
  refine wp_region_still_tail 16 (by kernel_rfl) (by kernel_rfl) ?_
  simp only [List.take_succ_cons, List.take_zero, List.drop_succ_cons, List.drop_zero]
  repeat still_step
  still_call (HByt.out _)
  repeat still_step
  still_call HGet.out
  repeat still_step
  refine wpStill_nil ?_
  change wpList _ _ _ _ _ w4.drew
  have HCd : Hid (CompAt w4.drew c rq g mc B { s with pc := s.pc + 1 } 0) := Lib.hid ⟨HC4.out.blk, HC4.out.u, HC4.out.m, HC4.out.far⟩
  have HBd := Lib.hid (below_drew1 HB4.out)
  have hcd : w4.drew.cell? ⟨rq, nd, none⟩ = some (.int .u32 vold) := hcd
  have hfd : w4.drew.frozen? ⟨rq, nd, none⟩ = false := hfd
  generalize w4.drew = w2 at *
  go_wp2_with fail
  go_end0
  exact ⟨rfl, by rw [HPE.out, HNE.out, HRE.out]; exact HCd.out.setReg nd _, HBd.out.setCell HFar.out.2.1 _⟩
set_option maxRecDepth 100000 in
set_option maxHeartbeats 4000000 in
theorem sstep_st {x : Cd} {s : Mach} {c rq g mc B : Nat} {w : World} (h : CompAt w c rq g mc B s 0) (hpc : s.pc < 9223372036854775807) (ho : 18 ≤ x.op ∧ x.op ≤ 23) (ha : x.a < s.rg.length) (hW : ∀ v ∈ s.rg, isW v) (him : (x.im : Int) < 4294967296) (hml : s.mem.length ≤ 1000000) (h21 : 21 ≤ x.op) (hb : 0 ≤ x.b ∧ x.b < s.rg.length) (hin : plc s x + nB x.op ≤ s.mem.length) :
    Calls Tryz.prog 40 #[.pointer (some ⟨c, 0, none⟩), (.agg #[.int .i64 x.op, .int .i64 x.d, .int .i64 x.a, .int .i64 x.b, .int .u32 x.im, .int .i64 x.to])] w fun e w' => e = .returned (.tuple #[]) ∧ CompAt w' c rq g mc B { s with pc := s.pc + 1, mem := wrF s.mem (plc s x) (nB x.op) (s.rg.getD x.b.toNat 0) } 0 ∧ Below B w w' := by
  have hcl := h.lt
  have HXa := Lib.hid (cdAt_new w x 68)
  have hb0 := (Below.refl w.heap.size w).alloc (Nat.le_refl _) (.cells #[.int .i64 x.op, .int .i64 x.d, .int .i64 x.a, .int .i64 x.b, .int .u32 x.im, .int .i64 x.to] 68)
  have HCa := Lib.hid (h.below hb0)
  have hBw : B ≤ w.heap.size := by have := h.far.1; omega
  have HBa := Lib.hid (hb0.mono hBw)
  have HFar := Lib.hid h.far
  clear h hb0
  obtain ⟨x0, x1, x2, x3, x4, x5⟩ := x
  simp only at *
  have HXb : Hid (CdAt (w.alloc (.cells #[.int .i64 x0, .int .i64 x1, .int .i64 x2, .int .i64 x3, .int .u32 x4, .int .i64 x5] 68)) w.heap.size 0 ⟨x0, x1, x2, x3, x4, x5⟩) := HXa
  have HCb : Hid (CompAt (w.alloc (.cells #[.int .i64 x0, .int .i64 x1, .int .i64 x2, .int .i64 x3, .int .u32 x4, .int .i64 x5] 68)) c rq g mc B s 0) := HCa
  have HBb : Hid (Below B w (w.alloc (.cells #[.int .i64 x0, .int .i64 x1, .int .i64 x2, .int .i64 x3, .int .u32 x4, .int .i64 x5] 68))) := HBa
  have HO := Lib.hid ho
  clear ho
  clear HXa HCa HBa
  go_enter Tryz.func40, Tryz.ntmps40
  go_upto_region 1 with (fail)
  generalize hw0 : w.alloc _ = w0
  generalize hq : w.heap.size = qx
  have HX : Hid (CdAt w0 qx 0 ⟨x0, x1, x2, x3, x4, x5⟩) := by subst hw0 hq; exact HXb
  have HC0 : Hid (CompAt w0 c rq g mc B s 0) := by subst hw0; exact HCb
  have HB0 : Hid (Below B w w0) := by subst hw0; exact HBb
  have hqc : qx ≠ c := by omega
  have hqB : B ≤ qx := by omega
  clear hw0 hq HXb HCb HBb
  have d3 := HC0.out.c3
  have f3 := HC0.out.free 3
  go_upto_region 3 with (fail)
  have HC1 : Hid (CompAt (w0.setCell ⟨c, 3, none⟩ (.int .i64 ((s.pc : Int) + 1))) c rq g mc B { s with pc := s.pc + 1 } 0) := Lib.hid (HC0.out.setPc (s.pc + 1))
  have HX1 : Hid (CdAt (w0.setCell ⟨c, 3, none⟩ (.int .i64 ((s.pc : Int) + 1))) qx 0 ⟨x0, x1, x2, x3, x4, x5⟩) := Lib.hid (HX.out.setOther hqc)
  have HB1 : Hid (Below B w (w0.setCell ⟨c, 3, none⟩ (.int .i64 ((s.pc : Int) + 1)))) := Lib.hid (HB0.out.setCell HFar.out.1 _)
  clear d3 f3 HC0 HX HB0
  generalize w0.setCell ⟨c, 3, none⟩ (.int .i64 ((s.pc : Int) + 1)) = w1 at *
  obtain ⟨k0, k1, k2, k3, k4, k5⟩ := cell_six_in0 HX1.out
  simp only at k0 k1 k2 k3 k4 k5
  have d0 := HC1.out.c0; have d1 := HC1.out.c1; have d2 := HC1.out.c2; have d3 := HC1.out.c3; have d4 := HC1.out.c4
  have f2 := HC1.out.free 2; have f3 := HC1.out.free 3; have f4 := HC1.out.free 4
  simp only at d0 d1 d2 d3 d4
  have ho := HO.out
  clear HO
  have hq0 : (x0 == 0) = false := by simp; omega
  have hq1 : (x0 == 1) = false := by simp; omega
  have hg2 : decide (2 ≤ x0) = true := decide_eq_true (by omega)
  have hl17 : decide (x0 ≤ 17) = false := decide_eq_false (by omega)
  have hg18 : decide (18 ≤ x0) = true := decide_eq_true (by omega)
  have hl23 : decide (x0 ≤ 23) = true := decide_eq_true (by omega)
  have hl20 : decide (x0 ≤ 20) = false := decide_eq_false (by omega)
  have HAd := Lib.hid (addr_any (x := ⟨x0, x1, x2, x3, x4, x5⟩) HC1.out hW him ho ha)
  have HPl : Hid (plc { s with pc := s.pc + 1 } ⟨x0, x1, x2, x3, x4, x5⟩ = plc s ⟨x0, x1, x2, x3, x4, x5⟩) := Lib.hid rfl
  rw [HPl.out] at HAd
  simp only at HAd
  clear HPl
  obtain ⟨pl, hpl⟩ : ∃ p, plc s ⟨x0, x1, x2, x3, x4, x5⟩ = p := ⟨_, rfl⟩
  obtain ⟨by0, hby⟩ : ∃ p, nB x0 = p := ⟨_, rfl⟩
  have hn3 := nB_three x0
  have HByt := Lib.hid (fun w => flipC (sbytes_any ho w))
  rw [hpl, hby] at hin HAd
  rw [hby] at hn3 HByt
  have HPE := Lib.hid hpl
  have HNE := Lib.hid hby
  have HN3 := Lib.hid hn3
  clear hpl hby hn3
  have HIn : Hid (decide (pl + by0 ≤ s.mem.length) = true) := Lib.hid (decide_eq_true hin)
  obtain ⟨nb, rfl⟩ : ∃ nb : Nat, x3 = (nb : Int) := ⟨x3.toNat, by omega⟩
  have hnb : nb < s.rg.length := by omega
  have hbi : (nb : Int) < (s.rg.length : Int) := by omega
  have hb0 : (0 : Int) ≤ (nb : Int) := by omega
  have hcb := HC1.out.u.cell hnb
  have hvw := getD_w hW nb
  rw [show decide (pl + by0 ≤ s.mem.length) = true from HIn.out] at HAd
  go_wp2_with fail
  refine HAd.out.mono ?_
  rintro e w4 ⟨rfl, hb4⟩
  have HC4 := Lib.hid (HC1.out.below hb4)
  have HB4 := Lib.hid (HB1.out.trans (hb4.mono (Nat.le_of_lt (Nat.lt_of_le_of_lt HFar.out.1 HC1.out.lt))))
  have k0 := keep k0 hb4; have k1 := keep k1 hb4; have k3 := keep k3 hb4
  have d0 := HC4.out.c0; have d1 := HC4.out.c1; have d4 := HC4.out.c4
  have f4 := HC4.out.free 4
  simp only at d0 d1 d4
  clear hb4 HC1 HB1 HX1 HAd
  have HPut := Lib.hid (fun w h => put_any s.mem B g mc pl by0 (s.rg.getD nb 0) w h hml hin (by have := HN3.out; omega) hvw)
  have HWl : Hid ((wrF s.mem pl by0 (s.rg.getD nb 0)).length = s.mem.length) := Lib.hid (wrD_len _ _ _ _)
  have hcb := HC4.out.u.cell hnb
  obtain ⟨mem2, hm2⟩ : ∃ m, wrF s.mem pl by0 (s.rg.getD nb 0) = m := ⟨_, rfl⟩
  rw [hm2] at HPut HWl
  have HME := Lib.hid hm2
  obtain ⟨vb, hvb⟩ : ∃ v, s.rg.getD nb 0 = v := ⟨_, rfl⟩
  rw [hvb] at HPut hcb
  clear hin HIn hvw hm2 hvb
  go_wp2_with fail
  refine wp_region_still_tail 16 (by kernel_rfl) (by kernel_rfl) ?_
  simp only [List.take_succ_cons, List.take_zero, List.drop_succ_cons, List.drop_zero]
  repeat still_step
  still_call (HByt.out _)
  repeat still_step
  refine wpStill_nil ?_
  change wpList _ _ _ _ _ w4.drew
  have HCd : Hid (CompAt w4.drew c rq g mc B { s with pc := s.pc + 1 } 0) := Lib.hid HC4.out.drew
  have HBd := Lib.hid (below_drew1 HB4.out)
  clear HC4 HB4 k0 k1 k3 d0 d1 d4 f4 hcb
  generalize w4.drew = w2 at *
  go_wp2_with fail
  refine (HPut.out _ HCd.out.m).mono ?_
  rintro e w5 ⟨rfl, hm5, hs5⟩
  have HC5 := Lib.hid (HCd.out.putMem hs5 hm5 HWl.out)
  have HB5 := Lib.hid (HBd.out.trans (hs5.below HCd.out.mch.1 (Nat.le_of_lt (Nat.lt_of_le_of_lt HFar.out.1 HCd.out.lt))))
  go_wp2_with fail
  go_end0
  exact ⟨rfl, by rw [HPE.out, HNE.out, Int.toNat_natCast, HME.out]; exact HC5.out, HB5.out⟩
end Go.Proofs.YtoldgjieplblpaaGreat.PK
namespace Go.Proofs.YtoldgjieplblpaaGreat.PK
open Go.RowKit

/-- What a step leaves. -/
def StepPost (regs : Int) (ls : List (List Cd)) (ml n c rq g mc B : Nat) (s : Mach) (r : Run) (w' : World) : Prop :=
  match r with
  | .on s' => CompAt w' c rq g mc B s' 0 ∧ FitM regs ls ml s' ∧ s'.tch = s.tch
  | .out m e k t => CompAt w' c rq g mc B { s with pc := s.pc + 1 } e ∧ m = s.mem ∧ e ≠ 0 ∧ k = (if e = 5 ∨ e = 3 then n else n + 1) ∧ t = s.tch
theorem tch_no (s : Mach) (x : Cd) : tchB s x 0 0 = s.tch := by
  unfold tchB
  rw [decide_eq_false (by omega), Bool.false_and, Bool.or_false]
theorem opA_reg {s : Mach} {x : Cd} (h : fA x.op = true) (ha : 0 ≤ x.a) : opA s x = s.rg.getD x.a.toNat 0 := by unfold opA; rw [if_pos ⟨h, ha⟩]
theorem opB_reg {s : Mach} {x : Cd} (h : fB x.op = true) : opB s x = s.rg.getD x.b.toNat 0 := by unfold opB; rw [if_pos h]
theorem step_pick {regs : Int} {ls : List (List Cd)} {ml n : Nat} {s : Mach} {x : Cd} (hv : progErrW regs ls = 0) (hf : FitM regs ls ml s) (hxe : atC (atB ls s.blk) s.pc = x) (him : (x.im : Int) < 4294967296) (hml : ml ≤ 1000000) (hpc : s.pc < 9223372036854775807) {c rq g mc B : Nat} {w : World} (h : CompAt w c rq g mc B s 0) :
    Calls Tryz.prog 40 #[.pointer (some ⟨c, 0, none⟩), (.agg #[.int .i64 x.op, .int .i64 x.d, .int .i64 x.a, .int .i64 x.b, .int .u32 x.im, .int .i64 x.to])] w fun e w' => e = .returned (.tuple #[]) ∧ StepPost regs ls ml n c rq g mc B s (stepM s x 0 0 n) w' ∧ Below B w w' := by
  obtain ⟨_, hcode, hlast⟩ := prog_partsW hv
  have hc := hcode s.blk s.pc hf.bk hf.pc
  have hnx := hf.next ((hlast s.blk hf.bk).2 s.pc hf.pc)
  rw [hxe] at hc hnx
  obtain ⟨hop, hd1, _, ha1, _, hb1, _, ht1, _, _⟩ := code_parts hc
  have hrl := hf.rl
  have hA := opA_w hf x
  have hB := opB_w hf x
  have hfr : ∀ s', CompAt w c rq g mc B s' 0 → True := fun _ _ => trivial
  clear hfr
  have hcs : x.op = 0 ∨ x.op = 1 ∨ (2 ≤ x.op ∧ x.op ≤ 17) ∨ (18 ≤ x.op ∧ x.op ≤ 20) ∨ (21 ≤ x.op ∧ x.op ≤ 23) ∨ x.op = 24 ∨ x.op = 25 ∨ x.op = 26 ∨ x.op = 27 := by omega
  have hD : x.op ≤ 20 → 0 ≤ x.d ∧ x.d < s.rg.length := fun e => by
    have := hd1 (by unfold fD; exact decide_eq_true (by omega)); omega
  have hAa : (1 ≤ x.op ∧ x.op ≤ 17 ∨ x.op = 25) → 0 ≤ x.a ∧ x.a < s.rg.length := fun e => by
    have := ha1 (by unfold fA; exact decide_eq_true (by omega))
    unfold lowA at this
    rw [fM_no (by omega), if_neg (by decide)] at this
    omega
  have hAl : (18 ≤ x.op ∧ x.op ≤ 23) → x.a < s.rg.length := fun e => by
    have := ha1 (by unfold fA; exact decide_eq_true (by omega)); omega
  have hBb : (2 ≤ x.op ∧ x.op ≤ 17 ∨ 21 ≤ x.op ∧ x.op ≤ 23) → 0 ≤ x.b ∧ x.b < s.rg.length := fun e => by
    have := hb1 (by unfold fB; exact decide_eq_true (by omega)); omega
  have hTt : (x.op = 24 ∨ x.op = 25) → 0 ≤ x.to ∧ x.to < ls.length := fun e => ht1 (by unfold fT; exact decide_eq_true (by omega))
  have hNx : x.op ≠ 24 → x.op ≠ 26 → x.op ≠ 27 → s.pc + 1 < (atB ls s.blk).length := fun a b c => hnx (last_no a b c)
  have hJ : (x.op = 24 ∨ x.op = 25) → FitM regs ls ml { s with blk := x.to.toNat, pc := 0 } := fun e => by
    have := hTt e
    have hk : x.to.toNat < ls.length := by omega
    exact ⟨hf.rl, hf.rw, hf.ml, hf.mb, hk, (hlast _ hk).1⟩
  rcases hcs with ho | ho | ho | ho | ho | ho | ho | ho | ho
  · refine (sstep_li h hpc ho (hD (by omega))).mono fun e w' k => ⟨k.1, ?_, k.2.2⟩
    rw [step_li ho]
    exact ⟨k.2.1, hf.put (hNx (by omega) (by omega) (by omega)) _ ⟨by omega, him⟩, rfl⟩
  · have ha := hAa (by omega)
    refine (sstep_mv h hpc ho (hD (by omega)) ha).mono fun e w' k => ⟨k.1, ?_, k.2.2⟩
    rw [step_mv ho, opA_reg (by unfold fA; exact decide_eq_true (by omega)) ha.1]
    exact ⟨k.2.1, hf.put (hNx (by omega) (by omega) (by omega)) _ (getD_w hf.rw _), rfl⟩
  · have ha := hAa (by omega)
    have hb := hBb (by omega)
    have ea : opA s x = s.rg.getD x.a.toNat 0 := opA_reg (by unfold fA; exact decide_eq_true (by omega)) ha.1
    have eb : opB s x = s.rg.getD x.b.toNat 0 := opB_reg (by unfold fB; exact decide_eq_true (by omega))
    cases hk : brkF x.op (s.rg.getD x.a.toNat 0) (s.rg.getD x.b.toNat 0)
    · refine (sstep_op h hpc ho (hD (by omega)) ha hb hf.rw hk).mono fun e w' k => ⟨k.1, ?_, k.2.2⟩
      rw [step_op ho (by rw [ea, eb]; exact hk), ea, eb]
      exact ⟨k.2.1, hf.put (hNx (by omega) (by omega) (by omega)) _ (resF_w (getD_w hf.rw _) (getD_w hf.rw _)), rfl⟩
    · refine (sstep_brk h hpc ho (hD (by omega)) ha hb hf.rw hk).mono fun e w' k => ⟨k.1, ?_, k.2.2⟩
      rw [step_brk ho (by rw [ea, eb]; exact hk)]
      exact ⟨k.2.1, rfl, by decide, rfl, rfl⟩
  · have h3 : 18 ≤ x.op ∧ x.op ≤ 23 := by omega
    by_cases hin : s.mem.length < plc s x + nB x.op
    · refine (sstep_fault h hpc h3 (hAl h3) hf.rw him hin).mono fun e w' k => ⟨k.1, ?_, k.2.2⟩
      rw [step_flt h3 hin, tch_no]
      exact ⟨k.2.1, rfl, by decide, rfl, rfl⟩
    · refine (sstep_ld h hpc h3 (hAl h3) hf.rw him (by rw [hf.ml]; exact hml) ho.2 (hD ho.2) (by omega) hf.mb).mono fun e w' k => ⟨k.1, ?_, k.2.2⟩
      rw [step_ld ho hin, tch_no]
      exact ⟨k.2.1, hf.put (hNx (by omega) (by omega) (by omega)) _ (rdD_w _ _ _ _), rfl⟩
  · have h3 : 18 ≤ x.op ∧ x.op ≤ 23 := by omega
    by_cases hin : s.mem.length < plc s x + nB x.op
    · refine (sstep_fault h hpc h3 (hAl h3) hf.rw him hin).mono fun e w' k => ⟨k.1, ?_, k.2.2⟩
      rw [step_flt h3 hin, tch_no]
      exact ⟨k.2.1, rfl, by decide, rfl, rfl⟩
    · have hb := hBb (by omega)
      refine (sstep_st h hpc h3 (hAl h3) hf.rw him (by rw [hf.ml]; exact hml) ho.1 hb (by omega)).mono fun e w' k => ⟨k.1, ?_, k.2.2⟩
      rw [step_st ho hin, tch_no, opB_reg (by unfold fB; exact decide_eq_true (by omega))]
      exact ⟨k.2.1, ⟨hf.rl, hf.rw, by show (wrD _ _ _ _).length = _; rw [wrD_len]; exact hf.ml, wrD_b hf.mb _, hf.bk, hNx (by omega) (by omega) (by omega)⟩, rfl⟩
  · refine (sstep_jmp h hpc ho (hTt (by omega)).1).mono fun e w' k => ⟨k.1, ?_, k.2.2⟩
    rw [step_jmp ho]
    exact ⟨k.2.1, hJ (by omega), rfl⟩
  · have ha := hAa (by omega)
    have ea : opA s x = s.rg.getD x.a.toNat 0 := opA_reg (by unfold fA; exact decide_eq_true (by omega)) ha.1
    by_cases hz : s.rg.getD x.a.toNat 0 = 0
    · refine (sstep_bz h hpc ho (hTt (by omega)).1 ha hz).mono fun e w' k => ⟨k.1, ?_, k.2.2⟩
      rw [step_bz ho (by rw [ea]; exact hz)]
      exact ⟨k.2.1, ⟨hf.rl, hf.rw, hf.ml, hf.mb, hf.bk, hNx (by omega) (by omega) (by omega)⟩, rfl⟩
    · refine (sstep_bnz h hpc ho (hTt (by omega)).1 ha hz).mono fun e w' k => ⟨k.1, ?_, k.2.2⟩
      rw [step_bnz ho (by rw [ea]; exact hz)]
      exact ⟨k.2.1, hJ (by omega), rfl⟩
  · refine (sstep_halt h hpc ho).mono fun e w' k => ⟨k.1, ?_, k.2.2⟩
    rw [step_halt ho]
    exact ⟨k.2.1, rfl, by decide, rfl, rfl⟩
  · refine (sstep_stop h hpc ho).mono fun e w' k => ⟨k.1, ?_, k.2.2⟩
    rw [step_stop ho]
    exact ⟨k.2.1, rfl, by decide, rfl, rfl⟩
end Go.Proofs.YtoldgjieplblpaaGreat.PK
