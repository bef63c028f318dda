/- The machine's arithmetic and memory. -/
import Derived.Test.YtjfpaelmcepidaaM0
import Derived.Test.YtjfpaelmcepidaaKQ
import Derived.Test.YtjfpaelmcepidaaKR
import Derived.Deep.RegionHeld3
namespace Go.Proofs.Ytjfpaelmcepidaa.PK
open Go.RowKit

theorem one_any (b : Bool) (w : World) : Calls Try.prog 94 #[.bool b] w fun e w' => e = .returned (.int .u32 (if b = true then 1 else 0)) ∧ w = w' := by
  cases b
  · go_enter Try.func94, Try.ntmps94
    go_wp2_with fail
    go_ret
    exact ⟨rfl, rfl⟩
  · go_enter Try.func94, Try.ntmps94
    go_wp2_with fail
    go_ret
    exact ⟨rfl, rfl⟩
theorem ret_u {a b : Int} (h : a = b) : Ending.returned (.int .u32 a) = .returned (.int .u32 b) := by rw [h]

theorem res2 (a b : Int) (ha : isW a) (hb : isW b) (w : World) : Calls Try.prog 70 #[.int .i64 2, .int .u32 a, .int .u32 b] w fun e w' => e = .returned (.int .u32 (resF 2 a b)) ∧ w = w' := by
  obtain ⟨ha0, ha1⟩ := ha
  obtain ⟨hb0, hb1⟩ := hb
  go_enter Try.func70, Try.ntmps70
  go_wp2_with fail
  go_ret
  exact ⟨ret_u (by simp [resF]), rfl⟩
theorem res3 (a b : Int) (ha : isW a) (hb : isW b) (w : World) : Calls Try.prog 70 #[.int .i64 3, .int .u32 a, .int .u32 b] w fun e w' => e = .returned (.int .u32 (resF 3 a b)) ∧ w = w' := by
  obtain ⟨ha0, ha1⟩ := ha
  obtain ⟨hb0, hb1⟩ := hb
  go_enter Try.func70, Try.ntmps70
  go_wp2_with fail
  go_ret
  exact ⟨ret_u (by simp [resF]), rfl⟩
theorem res4 (a b : Int) (ha : isW a) (hb : isW b) (w : World) : Calls Try.prog 70 #[.int .i64 4, .int .u32 a, .int .u32 b] w fun e w' => e = .returned (.int .u32 (resF 4 a b)) ∧ w = w' := by
  obtain ⟨ha0, ha1⟩ := ha
  obtain ⟨hb0, hb1⟩ := hb
  go_enter Try.func70, Try.ntmps70
  go_wp2_with fail
  go_ret
  exact ⟨ret_u (by simp [resF]), rfl⟩
theorem res5 (a b : Int) (ha : isW a) (hb : isW b) (hz : ¬ b = 0) (w : World) : Calls Try.prog 70 #[.int .i64 5, .int .u32 a, .int .u32 b] w fun e w' => e = .returned (.int .u32 (resF 5 a b)) ∧ w = w' := by
  obtain ⟨ha0, ha1⟩ := ha
  obtain ⟨hb0, hb1⟩ := hb
  have hz2 : (b == 0) = false := by simpa using hz
  go_enter Try.func70, Try.ntmps70
  go_wp2_with fail
  go_ret
  exact ⟨ret_u (by simp [resF]), rfl⟩
theorem res6 (a b : Int) (ha : isW a) (hb : isW b) (hz : ¬ b = 0) (w : World) : Calls Try.prog 70 #[.int .i64 6, .int .u32 a, .int .u32 b] w fun e w' => e = .returned (.int .u32 (resF 6 a b)) ∧ w = w' := by
  obtain ⟨ha0, ha1⟩ := ha
  obtain ⟨hb0, hb1⟩ := hb
  have hz2 : (b == 0) = false := by simpa using hz
  go_enter Try.func70, Try.ntmps70
  go_wp2_with fail
  go_ret
  exact ⟨ret_u (by simp [resF]), rfl⟩
theorem res7 (a b : Int) (ha : isW a) (hb : isW b) (hz : ¬ wrap32 b = 0) (w : World) : Calls Try.prog 70 #[.int .i64 7, .int .u32 a, .int .u32 b] w fun e w' => e = .returned (.int .u32 (resF 7 a b)) ∧ w = w' := by
  obtain ⟨ha0, ha1⟩ := ha
  obtain ⟨hb0, hb1⟩ := hb
  have hz2 : (wrap32 b == 0) = false := by simpa using hz
  go_enter Try.func70, Try.ntmps70
  go_wp2_with fail
  go_ret
  exact ⟨ret_u (by simp [resF]), rfl⟩
theorem res8 (a b : Int) (ha : isW a) (hb : isW b) (hz : ¬ wrap32 b = 0) (w : World) : Calls Try.prog 70 #[.int .i64 8, .int .u32 a, .int .u32 b] w fun e w' => e = .returned (.int .u32 (resF 8 a b)) ∧ w = w' := by
  obtain ⟨ha0, ha1⟩ := ha
  obtain ⟨hb0, hb1⟩ := hb
  have hz2 : (wrap32 b == 0) = false := by simpa using hz
  go_enter Try.func70, Try.ntmps70
  go_wp2_with fail
  go_ret
  exact ⟨ret_u (by simp [resF]), rfl⟩
theorem res9 (a b : Int) (ha : isW a) (hb : isW b) (w : World) : Calls Try.prog 70 #[.int .i64 9, .int .u32 a, .int .u32 b] w fun e w' => e = .returned (.int .u32 (resF 9 a b)) ∧ w = w' := by
  obtain ⟨ha0, ha1⟩ := ha
  obtain ⟨hb0, hb1⟩ := hb
  go_enter Try.func70, Try.ntmps70
  go_wp2_with fail
  go_ret
  exact ⟨ret_u (by simp [resF]), rfl⟩
theorem res10 (a b : Int) (ha : isW a) (hb : isW b) (w : World) : Calls Try.prog 70 #[.int .i64 10, .int .u32 a, .int .u32 b] w fun e w' => e = .returned (.int .u32 (resF 10 a b)) ∧ w = w' := by
  obtain ⟨ha0, ha1⟩ := ha
  obtain ⟨hb0, hb1⟩ := hb
  go_enter Try.func70, Try.ntmps70
  go_wp2_with fail
  go_ret
  exact ⟨ret_u (by simp [resF]), rfl⟩
theorem res11 (a b : Int) (ha : isW a) (hb : isW b) (w : World) : Calls Try.prog 70 #[.int .i64 11, .int .u32 a, .int .u32 b] w fun e w' => e = .returned (.int .u32 (resF 11 a b)) ∧ w = w' := by
  obtain ⟨ha0, ha1⟩ := ha
  obtain ⟨hb0, hb1⟩ := hb
  go_enter Try.func70, Try.ntmps70
  go_wp2_with fail
  go_ret
  exact ⟨ret_u (by simp [resF]), rfl⟩
theorem res12 (a b : Int) (ha : isW a) (hb : isW b) (w : World) : Calls Try.prog 70 #[.int .i64 12, .int .u32 a, .int .u32 b] w fun e w' => e = .returned (.int .u32 (resF 12 a b)) ∧ w = w' := by
  obtain ⟨ha0, ha1⟩ := ha
  obtain ⟨hb0, hb1⟩ := hb
  go_enter Try.func70, Try.ntmps70
  go_wp2_with fail
  go_ret
  exact ⟨ret_u (by simp [resF]), rfl⟩
theorem res13 (a b : Int) (ha : isW a) (hb : isW b) (w : World) : Calls Try.prog 70 #[.int .i64 13, .int .u32 a, .int .u32 b] w fun e w' => e = .returned (.int .u32 (resF 13 a b)) ∧ w = w' := by
  obtain ⟨ha0, ha1⟩ := ha
  obtain ⟨hb0, hb1⟩ := hb
  go_enter Try.func70, Try.ntmps70
  go_wp2_with fail
  go_ret
  exact ⟨ret_u (by simp [resF]), rfl⟩
theorem res14 (a b : Int) (ha : isW a) (hb : isW b) (w : World) : Calls Try.prog 70 #[.int .i64 14, .int .u32 a, .int .u32 b] w fun e w' => e = .returned (.int .u32 (resF 14 a b)) ∧ w = w' := by
  obtain ⟨ha0, ha1⟩ := ha
  obtain ⟨hb0, hb1⟩ := hb
  go_enter Try.func70, Try.ntmps70
  go_wp2_with fail
  go_ret
  exact ⟨ret_u (by simp [resF]), rfl⟩
theorem res15 (a b : Int) (ha : isW a) (hb : isW b) (w : World) : Calls Try.prog 70 #[.int .i64 15, .int .u32 a, .int .u32 b] w fun e w' => e = .returned (.int .u32 (resF 15 a b)) ∧ w = w' := by
  obtain ⟨ha0, ha1⟩ := ha
  obtain ⟨hb0, hb1⟩ := hb
  have HO := Lib.hid one_any
  by_cases hc : wrap32 a < wrap32 b
  · go_enter Try.func70, Try.ntmps70
    go_wp2_with fail
    refine (HO.out _ _).mono ?_; rintro e v ⟨rfl, rfl⟩
    go_wp2_with fail
    go_ret
    exact ⟨ret_u (by simp [resF, hc]), rfl⟩
  · go_enter Try.func70, Try.ntmps70
    go_wp2_with fail
    refine (HO.out _ _).mono ?_; rintro e v ⟨rfl, rfl⟩
    go_wp2_with fail
    go_ret
    exact ⟨ret_u (by simp [resF, hc]), rfl⟩
theorem res16 (a b : Int) (ha : isW a) (hb : isW b) (w : World) : Calls Try.prog 70 #[.int .i64 16, .int .u32 a, .int .u32 b] w fun e w' => e = .returned (.int .u32 (resF 16 a b)) ∧ w = w' := by
  obtain ⟨ha0, ha1⟩ := ha
  obtain ⟨hb0, hb1⟩ := hb
  have HO := Lib.hid one_any
  by_cases hc : a < b
  · go_enter Try.func70, Try.ntmps70
    go_wp2_with fail
    refine (HO.out _ _).mono ?_; rintro e v ⟨rfl, rfl⟩
    go_wp2_with fail
    go_ret
    exact ⟨ret_u (by simp [resF, hc]), rfl⟩
  · go_enter Try.func70, Try.ntmps70
    go_wp2_with fail
    refine (HO.out _ _).mono ?_; rintro e v ⟨rfl, rfl⟩
    go_wp2_with fail
    go_ret
    exact ⟨ret_u (by simp [resF, hc]), rfl⟩
theorem res17 (a b : Int) (w : World) : Calls Try.prog 70 #[.int .i64 17, .int .u32 a, .int .u32 b] w fun e w' => e = .returned (.int .u32 (resF 17 a b)) ∧ w = w' := by
  have HO := Lib.hid one_any
  by_cases hc : a = b
  · subst hc
    go_enter Try.func70, Try.ntmps70
    go_wp2_with fail
    refine (HO.out _ _).mono ?_; rintro e v ⟨rfl, rfl⟩
    go_wp2_with fail
    go_ret
    exact ⟨ret_u (by simp [resF]), rfl⟩
  · have hcb : (a == b) = false := by simpa using hc
    go_enter Try.func70, Try.ntmps70
    go_wp2_with fail
    refine (HO.out _ _).mono ?_; rintro e v ⟨rfl, rfl⟩
    go_wp2_with fail
    go_ret
    exact ⟨ret_u (by simp [resF, hc]), rfl⟩
end Go.Proofs.Ytjfpaelmcepidaa.PK
namespace Go.Proofs.Ytjfpaelmcepidaa.PK
open Go.RowKit

theorem wrap32_zero {b : Int} (hb : isW b) (h : wrap32 b = 0) : b = 0 := by
  obtain ⟨h0, h1⟩ := hb
  unfold wrap32 at h
  omega
theorem result_any {op a b : Int} (ho : 2 ≤ op ∧ op ≤ 17) (ha : isW a) (hb : isW b) (hk : brkF op a b = false) (w : World) : Calls Try.prog 70 #[.int .i64 op, .int .u32 a, .int .u32 b] w fun e w' => e = .returned (.int .u32 (resF op a b)) ∧ w = w' := by
  have hc : op = 2 ∨ op = 3 ∨ op = 4 ∨ op = 5 ∨ op = 6 ∨ op = 7 ∨ op = 8 ∨ op = 9 ∨ op = 10 ∨ op = 11 ∨ op = 12 ∨ op = 13 ∨ op = 14 ∨ op = 15 ∨ op = 16 ∨ op = 17 := by omega
  rcases hc with rfl | rfl | rfl | rfl | rfl | rfl | rfl | rfl | rfl | rfl | rfl | rfl | rfl | rfl | rfl | rfl
  · exact res2 a b ha hb w
  · exact res3 a b ha hb w
  · exact res4 a b ha hb w
  · exact res5 a b ha hb (brkF_no hk (by omega)) w
  · exact res6 a b ha hb (brkF_no hk (by omega)) w
  · exact res7 a b ha hb (fun h => brkF_no hk (by omega) (wrap32_zero hb h)) w
  · exact res8 a b ha hb (fun h => brkF_no hk (by omega) (wrap32_zero hb h)) w
  · exact res9 a b ha hb w
  · exact res10 a b ha hb w
  · exact res11 a b ha hb w
  · exact res12 a b ha hb w
  · exact res13 a b ha hb w
  · exact res14 a b ha hb w
  · exact res15 a b ha hb w
  · exact res16 a b ha hb w
  · exact res17 a b w
set_option maxHeartbeats 1000000 in
theorem breaks_any (op a b : Int) (w : World) : Calls Try.prog 69 #[.int .i64 op, .int .u32 a, .int .u32 b] w fun e w' => e = .returned (.bool (brkF op a b)) ∧ w = w' := by
  by_cases h5 : op = 5
  · subst h5
    go_enter Try.func69, Try.ntmps69
    go_wp2_with fail
    go_ret
    exact ⟨ret_bool (by simp [brkF]; try rfl), rfl⟩
  by_cases h6 : op = 6
  · subst h6
    go_enter Try.func69, Try.ntmps69
    go_wp2_with fail
    go_ret
    exact ⟨ret_bool (by simp [brkF]; try rfl), rfl⟩
  by_cases h7 : op = 7
  · subst h7
    by_cases hb : b = 0
    · subst hb
      go_enter Try.func69, Try.ntmps69
      go_wp2_with fail
      go_ret
      exact ⟨ret_bool (by simp [brkF]), rfl⟩
    · have hb2 : (b == 0) = false := by simpa using hb
      by_cases ha : a = 2147483648
      · subst ha
        go_enter Try.func69, Try.ntmps69
        go_wp2_with fail
        go_ret
        exact ⟨ret_bool (by simp [brkF, hb]; try rfl), rfl⟩
      · have ha2 : (a == 2147483648) = false := by simpa using ha
        go_enter Try.func69, Try.ntmps69
        go_wp2_with fail
        go_ret
        exact ⟨ret_bool (by simp [brkF, hb, ha]), rfl⟩
  by_cases h8 : op = 8
  · subst h8
    by_cases hb : b = 0
    · subst hb
      go_enter Try.func69, Try.ntmps69
      go_wp2_with fail
      go_ret
      exact ⟨ret_bool (by simp [brkF]), rfl⟩
    · have hb2 : (b == 0) = false := by simpa using hb
      by_cases ha : a = 2147483648
      · subst ha
        go_enter Try.func69, Try.ntmps69
        go_wp2_with fail
        go_ret
        exact ⟨ret_bool (by simp [brkF, hb]; try rfl), rfl⟩
      · have ha2 : (a == 2147483648) = false := by simpa using ha
        go_enter Try.func69, Try.ntmps69
        go_wp2_with fail
        go_ret
        exact ⟨ret_bool (by simp [brkF, hb, ha]), rfl⟩
  go_enter Try.func69, Try.ntmps69
  go_wp2_with fail
  go_ret
  exact ⟨ret_bool (by simp [brkF, h5, h6, h7, h8]), rfl⟩
theorem bytes_any {op : Int} (ho : 18 ≤ op ∧ op ≤ 23) (w : World) : Calls Try.prog 66 #[.int .i64 op] w fun e w' => e = .returned (.int .i64 (nB op)) ∧ w = w' := by
  have hc : op = 18 ∨ op = 19 ∨ op = 20 ∨ op = 21 ∨ op = 22 ∨ op = 23 := by omega
  rcases hc with rfl | rfl | rfl | rfl | rfl | rfl
  · go_enter Try.func66, Try.ntmps66
    go_wp2_with fail
    go_ret
    exact ⟨rfl, rfl⟩
  · go_enter Try.func66, Try.ntmps66
    go_wp2_with fail
    go_ret
    exact ⟨rfl, rfl⟩
  · go_enter Try.func66, Try.ntmps66
    go_wp2_with fail
    go_ret
    exact ⟨rfl, rfl⟩
  · go_enter Try.func66, Try.ntmps66
    go_wp2_with fail
    go_ret
    exact ⟨rfl, rfl⟩
  · go_enter Try.func66, Try.ntmps66
    go_wp2_with fail
    go_ret
    exact ⟨rfl, rfl⟩
  · go_enter Try.func66, Try.ntmps66
    go_wp2_with fail
    go_ret
    exact ⟨rfl, rfl⟩
theorem rMem20_any (n : Int) (w : World) : Calls Try.prog 65 #[.int .i64 n] w fun e w' => e = .returned (.bool (fM n)) ∧ w = w' := by
  go_enter Try.func65, Try.ntmps65
  go_upto_region 1 with (fail)
  by_cases h0 : 18 ≤ n
  · by_cases h1 : n ≤ 23
    · go_wp2_with fail
      go_ret
      exact ⟨ret_bool (by unfold fM; simp [h0, h1]), rfl⟩
    · go_wp2_with fail
      go_ret
      exact ⟨ret_bool (by unfold fM; simp; omega), rfl⟩
  · go_wp2_with fail
    go_ret
    exact ⟨ret_bool (by unfold fM; simp; omega), rfl⟩
theorem rwithin_any (n lo hi : Int) (w : World) : Calls Try.prog 26 #[.int .i64 n, .int .i64 lo, .int .i64 hi] w fun e w' => e = .returned (.bool (decide (lo ≤ n) && decide (n ≤ hi))) ∧ w = w' := by
  go_enter Try.func26, Try.ntmps26
  go_upto_region 1 with (fail)
  by_cases h0 : lo ≤ n
  · by_cases h1 : n ≤ hi
    · go_wp2_with fail
      go_ret
      exact ⟨ret_bool (by simp [h0, h1]), rfl⟩
    · go_wp2_with fail
      go_ret
      exact ⟨ret_bool (by simp; omega), rfl⟩
  · go_wp2_with fail
    go_ret
    exact ⟨ret_bool (by simp; omega), rfl⟩
theorem results_tmp5 {fn : Func} {t u v x y : Tmp} (h : fn.results = #[.tmp t, .tmp u, .tmp v, .tmp x, .tmp y]) (tmps : Array Value) (P : Program) (w : World) :
    (results fn tmps).run P w = .ok (.tuple #[tmps.getD t undef, tmps.getD u undef, tmps.getD v undef, tmps.getD x undef, tmps.getD y undef]) w := by
  simp [results, h]
theorem ret5 {a b c d e a' b' c' d' e' : Bool} (h1 : a = a') (h2 : b = b') (h3 : c = c') (h4 : d = d') (h5 : e = e') : Ending.returned (.tuple #[.bool a, .bool b, .bool c, .bool d, .bool e]) = .returned (.tuple #[.bool a', .bool b', .bool c', .bool d', .bool e']) := by rw [h1, h2, h3, h4, h5]
set_option maxHeartbeats 1000000 in
theorem rhas_any (op : Int) (w : World) : Calls Try.prog 64 #[.int .i64 op] w fun e w' => e = .returned (.tuple #[.bool (fD op), .bool (fA op), .bool (fB op), .bool (fI op), .bool (fT op)]) ∧ w = w' := by
  have HR := Lib.hid (fun a b c d e h1 h2 h3 h4 h5 => @ret5 a b c d e (fD op) (fA op) (fB op) (fI op) (fT op) h1 h2 h3 h4 h5)
  by_cases h0 : op = 0
  · subst h0
    go_enter Try.func64, Try.ntmps64
    go_wp2_with fail
    ((try simp only [Exit.inBlock, Exit.then]); refine bodyPost_ret (results_tmp5 rfl _ _ _) rfl ?_)
    exact ⟨HR.out _ _ _ _ _ (by unfold fD; simp; try omega) (by unfold fA; simp; try omega) (by unfold fB; simp; try omega) (by unfold fI; simp; try omega) (by unfold fT; simp; try omega), rfl⟩
  by_cases h1 : op = 1
  · subst h1
    go_enter Try.func64, Try.ntmps64
    go_wp2_with fail
    ((try simp only [Exit.inBlock, Exit.then]); refine bodyPost_ret (results_tmp5 rfl _ _ _) rfl ?_)
    exact ⟨HR.out _ _ _ _ _ (by unfold fD; simp; try omega) (by unfold fA; simp; try omega) (by unfold fB; simp; try omega) (by unfold fI; simp; try omega) (by unfold fT; simp; try omega), rfl⟩
  by_cases r1 : 2 ≤ op ∧ op ≤ 17
  · obtain ⟨r1a, r1b⟩ := r1
    go_enter Try.func64, Try.ntmps64
    go_wp2_with fail
    ((try simp only [Exit.inBlock, Exit.then]); refine bodyPost_ret (results_tmp5 rfl _ _ _) rfl ?_)
    exact ⟨HR.out _ _ _ _ _ (by unfold fD; simp; try omega) (by unfold fA; simp; try omega) (by unfold fB; simp; try omega) (by unfold fI; simp; try omega) (by unfold fT; simp; try omega), rfl⟩
  by_cases r2 : 18 ≤ op ∧ op ≤ 20
  · obtain ⟨r2a, r2b⟩ := r2
    go_enter Try.func64, Try.ntmps64
    go_wp2_with fail
    ((try simp only [Exit.inBlock, Exit.then]); refine bodyPost_ret (results_tmp5 rfl _ _ _) rfl ?_)
    exact ⟨HR.out _ _ _ _ _ (by unfold fD; simp; try omega) (by unfold fA; simp; try omega) (by unfold fB; simp; try omega) (by unfold fI; simp; try omega) (by unfold fT; simp; try omega), rfl⟩
  by_cases r3 : 21 ≤ op ∧ op ≤ 23
  · obtain ⟨r3a, r3b⟩ := r3
    go_enter Try.func64, Try.ntmps64
    go_wp2_with fail
    ((try simp only [Exit.inBlock, Exit.then]); refine bodyPost_ret (results_tmp5 rfl _ _ _) rfl ?_)
    exact ⟨HR.out _ _ _ _ _ (by unfold fD; simp; try omega) (by unfold fA; simp; try omega) (by unfold fB; simp; try omega) (by unfold fI; simp; try omega) (by unfold fT; simp; try omega), rfl⟩
  by_cases h24 : op = 24
  · subst h24
    go_enter Try.func64, Try.ntmps64
    go_wp2_with fail
    ((try simp only [Exit.inBlock, Exit.then]); refine bodyPost_ret (results_tmp5 rfl _ _ _) rfl ?_)
    exact ⟨HR.out _ _ _ _ _ (by unfold fD; simp; try omega) (by unfold fA; simp; try omega) (by unfold fB; simp; try omega) (by unfold fI; simp; try omega) (by unfold fT; simp; try omega), rfl⟩
  by_cases h25 : op = 25
  · subst h25
    go_enter Try.func64, Try.ntmps64
    go_wp2_with fail
    ((try simp only [Exit.inBlock, Exit.then]); refine bodyPost_ret (results_tmp5 rfl _ _ _) rfl ?_)
    exact ⟨HR.out _ _ _ _ _ (by unfold fD; simp; try omega) (by unfold fA; simp; try omega) (by unfold fB; simp; try omega) (by unfold fI; simp; try omega) (by unfold fT; simp; try omega), rfl⟩
  by_cases hn : op < 0
  · skip
    go_enter Try.func64, Try.ntmps64
    go_wp2_with fail
    ((try simp only [Exit.inBlock, Exit.then]); refine bodyPost_ret (results_tmp5 rfl _ _ _) rfl ?_)
    exact ⟨HR.out _ _ _ _ _ (by unfold fD; simp; try omega) (by unfold fA; simp; try omega) (by unfold fB; simp; try omega) (by unfold fI; simp; try omega) (by unfold fT; simp; try omega), rfl⟩
  · have hg : 26 ≤ op := by omega
    go_enter Try.func64, Try.ntmps64
    go_wp2_with fail
    ((try simp only [Exit.inBlock, Exit.then]); refine bodyPost_ret (results_tmp5 rfl _ _ _) rfl ?_)
    exact ⟨HR.out _ _ _ _ _ (by unfold fD; simp; try omega) (by unfold fA; simp; try omega) (by unfold fB; simp; try omega) (by unfold fI; simp; try omega) (by unfold fT; simp; try omega), rfl⟩
end Go.Proofs.Ytjfpaelmcepidaa.PK
namespace Go.Proofs.Ytjfpaelmcepidaa.PK
open Go.RowKit

def encB (l : List Int) : List Value := l.map fun x => .int .u8 x
theorem encB_len (l : List Int) : (encB l).length = l.length := by simp [encB]
theorem encB_get {l : List Int} {k : Nat} (h : k < l.length) : (encB l)[k]? = some (.int .u8 (l.getD k 0)) := by
  simp [encB, List.getD_eq_getElem?_getD, h]
theorem encB_set (l : List Int) (k : Nat) (x : Int) : encB (l.set k x) = (encB l).set k (.int .u8 x) := by simp [encB]
/-- The cells of a slice are these bytes. -/
def BIn (w : World) (a : Option Addr) (l : List Int) : Prop :=
  ∀ k, k < l.length → ∃ b off, a = some ⟨b, off, none⟩ ∧ w.cell? ⟨b, off + k, none⟩ = some (.int .u8 (l.getD k 0))
theorem BIn.below {w w' : World} {a : Option Addr} {l : List Int} (h : BIn w a l) (hb : Below w.heap.size w w') : BIn w' a l := fun k hk => by
  obtain ⟨b, off, rfl, hc⟩ := h k hk
  exact ⟨b, off, rfl, keep hc hb⟩
theorem bin_owns {w : World} {B g n c : Nat} {e : TypeId} {l : List Int} (h : w.ownsRow B e 1 (.slice (some ⟨g, 0, none⟩) n c) n (encB l)) : BIn w (some ⟨g, 0, none⟩) l := fun k hk => by
  have hl := h.1
  rw [encB_len] at hl
  obtain ⟨g', cap, ev, _, _, _, _, hc, _⟩ := owns_cells h (by omega)
  simp only [Value.slice.injEq, Option.some.injEq, Addr.mk.injEq, and_true, true_and] at ev
  obtain ⟨rfl, rfl⟩ := ev
  exact ⟨g, 0, rfl, by rw [Nat.zero_add]; exact hc k _ (encB_get hk)⟩
theorem getD_b {l : List Int} (h : ∀ x ∈ l, isB x) (k : Nat) : isB (l.getD k 0) := by
  rw [List.getD_eq_getElem?_getD]
  by_cases hk : k < l.length
  · rw [List.getElem?_eq_getElem hk]; exact h _ (List.getElem_mem hk)
  · rw [List.getElem?_eq_none (by omega)]; exact ⟨by decide, by decide⟩
theorem ret_u' {a b : Int} (h : a = b) : Ending.returned (.int .u32 a) = .returned (.int .u32 b) := by rw [h]
set_option maxRecDepth 100000 in
set_option maxHeartbeats 2000000 in
theorem read_any (mem : List Int) (a : Option Addr) (cap at0 many : Nat) (w : World) (hin : BIn w a mem) (hB : ∀ x ∈ mem, isB x) (hl : mem.length ≤ 1000000) (hat : at0 + many ≤ mem.length) :
    Calls Try.prog 68 #[.slice a mem.length cap, .int .i64 at0, .int .i64 many] w fun e w' => e = .returned (.int .u32 (rdF mem at0 many)) ∧ w = w' := by
  have HI := Lib.hid hin
  have HBy := Lib.hid (fun k => getD_b hB k)
  have HW := Lib.hid (fun d => rdD_w mem at0 many d)
  clear hin hB
  go_enter Try.func68, Try.ntmps68
  go_wp2_with fail
  go_loopw [7, 8] (fun n i wr => ∃ d j : Nat, d + j = many ∧ i = .int .i64 ((j : Int) - 1) ∧ n = .int .u32 (rdD mem at0 many d) ∧ w = wr) (fun _ i _ => (intOf i + 1).toNat)
  case atStart => exact ⟨0, many, by omega, by go_num, rfl, by trivial⟩
  case round =>
    obtain ⟨d, j, hdj, rfl, rfl, rfl⟩ := hrel
    by_cases hj0 : j = 0
    · subst hj0
      obtain rfl : d = many := by omega
      have hj : ¬ (0 : Int) ≤ ((0 : Nat) : Int) - 1 := by omega
      go_wp2_with fail
      go_ret
      exact ⟨ret_u' rfl, rfl⟩
    · obtain ⟨m, rfl⟩ : ∃ m, j = m + 1 := ⟨j - 1, by omega⟩
      have hjm : (((m + 1 : Nat) : Int) - 1) = (m : Int) := by omega
      rw [hjm]
      obtain ⟨b, off, rfl, hc⟩ := HI.out (at0 + m) (by omega)
      have hby := HBy.out (at0 + m)
      have hw := HW.out d
      have HN : Hid (rdD mem at0 many (d + 1) = bits .or .u32 (rdD mem at0 many d * 256 % 4294967296) (mem.getD (at0 + m) 0)) := Lib.hid (by
        show bits _ _ _ (mem.getD (at0 + (many - (d + 1))) 0) = _
        rw [show many - (d + 1) = m by omega])
      have hix : ((at0 : Int) + (m : Int)).toNat = at0 + m := by omega
      have hil : (at0 : Int) + (m : Int) < (mem.length : Int) := by omega
      have hin0 : (0 : Int) ≤ (at0 : Int) + (m : Int) := by omega
      obtain ⟨hw0, hw1⟩ := hw
      obtain ⟨hb0, hb1⟩ := hby
      generalize mem.getD (at0 + m) 0 = x at *
      generalize rdD mem at0 many d = n at *
      have hm0 : (0 : Int) ≤ (m : Int) := by omega
      go_wp2_with fail
      go_roundw
      case rel => exact ⟨d + 1, m, by omega, by go_num, by rw [HN.out], by trivial⟩
      case measure => simp [intOf]
set_option maxRecDepth 100000 in
set_option maxHeartbeats 2000000 in
theorem write_any (mem : List Int) (B g cap at0 many : Nat) (v : Int) (w : World) (ho : w.ownsRow B 5 1 (.slice (some ⟨g, 0, none⟩) mem.length cap) mem.length (encB mem)) (hl : mem.length ≤ 1000000) (hat : at0 + many ≤ mem.length) (h4 : many ≤ 4) (hv : isW v) :
    Calls Try.prog 67 #[.slice (some ⟨g, 0, none⟩) mem.length cap, .int .i64 at0, .int .i64 many, .int .u32 v] w fun e w' => e = .returned (.tuple #[]) ∧ w'.ownsRow B 5 1 (.slice (some ⟨g, 0, none⟩) mem.length cap) mem.length (encB (wrF mem at0 many v)) ∧ Save g w w' := by
  have HO := Lib.hid ho
  have HL := Lib.hid (fun i => wrD_len mem at0 v i)
  clear ho
  obtain ⟨hv0, hv1⟩ := hv
  generalize hml : mem.length = n at *
  have HMl := Lib.hid hml; clear hml
  go_enter Try.func67, Try.ntmps67
  go_wp2_with fail
  go_loopw [8] (fun i wr => ∃ k : Nat, k ≤ many ∧ i = .int .i64 k ∧ wr.ownsRow B 5 1 (.slice (some ⟨g, 0, none⟩) n cap) n (encB (wrD mem at0 v k)) ∧ Save g w wr) (fun i _ => many - (intOf i).toNat)
  case atStart => exact ⟨0, Nat.zero_le _, rfl, HO.out, Save.refl _ _⟩
  case round =>
    obtain ⟨k, hk, rfl, ho, hs⟩ := hrel
    by_cases hlt : k < many
    · obtain ⟨g', c', ev, _, _, _, _, hcs, hfz⟩ := owns_cells ho (by omega)
      simp only [Value.slice.injEq, Option.some.injEq, Addr.mk.injEq, and_true, true_and] at ev
      obtain ⟨rfl, rfl⟩ := ev
      have hlk := HL.out k
      have hcell := hcs (at0 + k) _ (encB_get (by rw [hlk]; omega))
      have hfr := hfz (at0 + k)
      have HO2 := Lib.hid ho; have HS := Lib.hid hs
      have HN : Hid (wrD mem at0 v (k + 1) = (wrD mem at0 v k).set (at0 + k) (v / 2 ^ (8 * k) % 256)) := Lib.hid rfl
      have hix : ((at0 : Int) + (k : Int)).toNat = at0 + k := by omega
      have hil : (at0 : Int) + (k : Int) < (n : Int) := by omega
      have hin0 : (0 : Int) ≤ (at0 : Int) + (k : Int) := by omega
      clear ho hs hcs hfz hlk
      generalize (wrD mem at0 v k).getD (at0 + k) 0 = old at *
      have hki : (k : Int) < (many : Int) := by omega
      go_wp2_with fail
      go_roundw
      case rel => exact ⟨k + 1, by omega, by go_num, by rw [HN.out, encB_set]; exact owns_set HO2.out _ _, HS.out.trans (Save.set _ _ _ _)⟩
      case measure => simp [intOf]; omega
    · obtain rfl : k = many := by omega
      have HO2 := Lib.hid ho; have HS := Lib.hid hs
      clear ho hs
      go_wp2_with fail
      go_end0
      exact ⟨rfl, HO2.out, HS.out⟩
end Go.Proofs.Ytjfpaelmcepidaa.PK
namespace Go.Proofs.Ytjfpaelmcepidaa.PK
open Go.RowKit

theorem code_parts {x : Cd} {regs blocks : Int} (h : isCodeB x regs blocks = true) : (0 ≤ x.op ∧ x.op ≤ 27) ∧ (fD x.op = true → 0 ≤ x.d ∧ x.d < regs) ∧ (fD x.op = false → x.d = 0) ∧ (fA x.op = true → lowA x.op ≤ x.a ∧ x.a < regs) ∧ (fA x.op = false → x.a = 0) ∧ (fB x.op = true → 0 ≤ x.b ∧ x.b < regs) ∧ (fB x.op = false → x.b = 0) ∧ (fT x.op = true → 0 ≤ x.to ∧ x.to < blocks) ∧ (fT x.op = false → x.to = 0) ∧ (fI x.op = false → x.im = 0) := by
  unfold isCodeB wi at h
  simp only [Bool.and_eq_true] at h
  obtain ⟨h0, h1, h2, h3, h4, h5⟩ := h
  refine ⟨by unfold fO at h0; simpa using h0, fun e => ?_, fun e => ?_, fun e => ?_, fun e => ?_, fun e => ?_, fun e => ?_, fun e => ?_, fun e => ?_, fun e => ?_⟩
  · rw [if_pos e] at h1; simpa using h1
  · rw [if_neg (by rw [e]; decide)] at h1; simpa using h1
  · rw [if_pos e] at h2; simpa using h2
  · rw [if_neg (by rw [e]; decide)] at h2; simpa using h2
  · rw [if_pos e] at h3; simpa using h3
  · rw [if_neg (by rw [e]; decide)] at h3; simpa using h3
  · rw [if_pos e] at h4; simpa using h4
  · rw [if_neg (by rw [e]; decide)] at h4; simpa using h4
  · rw [e, Bool.false_or] at h5; simpa using h5
theorem cell_six_in0 {w : World} {q : Nat} {x : Cd} (h : CdAt w q 0 x) : w.cell? ⟨q, 0, none⟩ = some (.int .i64 x.op) ∧ w.cell? ⟨q, 1, none⟩ = some (.int .i64 x.d) ∧ w.cell? ⟨q, 2, none⟩ = some (.int .i64 x.a) ∧ w.cell? ⟨q, 3, none⟩ = some (.int .i64 x.b) ∧ w.cell? ⟨q, 4, none⟩ = some (.int .u32 x.im) ∧ w.cell? ⟨q, 5, none⟩ = some (.int .i64 x.to) := by
  have h1 := h.c1; have h2 := h.c2; have h3 := h.c3; have h4 := h.c4; have h5 := h.c5
  rw [Nat.zero_add] at h1 h2 h3 h4 h5
  exact ⟨h.c0, h1, h2, h3, h4, h5⟩
theorem flags (op : Int) (h : 0 ≤ op ∧ op ≤ 27) :
    (fD op = true ∧ fA op = false ∧ fB op = false ∧ fI op = true ∧ fT op = false ∧ fM op = false) ∨
    (fD op = true ∧ fA op = true ∧ fB op = false ∧ fI op = false ∧ fT op = false ∧ fM op = false) ∨
    (fD op = true ∧ fA op = true ∧ fB op = true ∧ fI op = false ∧ fT op = false ∧ fM op = false) ∨
    (fD op = true ∧ fA op = true ∧ fB op = false ∧ fI op = true ∧ fT op = false ∧ fM op = true) ∨
    (fD op = false ∧ fA op = true ∧ fB op = true ∧ fI op = true ∧ fT op = false ∧ fM op = true) ∨
    (fD op = false ∧ fA op = false ∧ fB op = false ∧ fI op = false ∧ fT op = true ∧ fM op = false) ∨
    (fD op = false ∧ fA op = true ∧ fB op = false ∧ fI op = false ∧ fT op = true ∧ fM op = false) ∨
    (fD op = false ∧ fA op = false ∧ fB op = false ∧ fI op = false ∧ fT op = false ∧ fM op = false) := by
  have hc : op = 0 ∨ op = 1 ∨ (2 ≤ op ∧ op ≤ 17) ∨ (18 ≤ op ∧ op ≤ 20) ∨ (21 ≤ op ∧ op ≤ 23) ∨ op = 24 ∨ op = 25 ∨ (26 ≤ op ∧ op ≤ 27) := by omega
  unfold fD fA fB fI fT fM
  rcases hc with h | h | h | h | h | h | h | h
  · exact .inl ⟨decide_eq_true (by omega), decide_eq_false (by omega), decide_eq_false (by omega), decide_eq_true (by omega), decide_eq_false (by omega), decide_eq_false (by omega)⟩
  · exact .inr (.inl ⟨decide_eq_true (by omega), decide_eq_true (by omega), decide_eq_false (by omega), decide_eq_false (by omega), decide_eq_false (by omega), decide_eq_false (by omega)⟩)
  · exact .inr (.inr (.inl ⟨decide_eq_true (by omega), decide_eq_true (by omega), decide_eq_true (by omega), decide_eq_false (by omega), decide_eq_false (by omega), decide_eq_false (by omega)⟩))
  · exact .inr (.inr (.inr (.inl ⟨decide_eq_true (by omega), decide_eq_true (by omega), decide_eq_false (by omega), decide_eq_true (by omega), decide_eq_false (by omega), decide_eq_true (by omega)⟩)))
  · exact .inr (.inr (.inr (.inr (.inl ⟨decide_eq_false (by omega), decide_eq_true (by omega), decide_eq_true (by omega), decide_eq_true (by omega), decide_eq_false (by omega), decide_eq_true (by omega)⟩))))
  · exact .inr (.inr (.inr (.inr (.inr (.inl ⟨decide_eq_false (by omega), decide_eq_false (by omega), decide_eq_false (by omega), decide_eq_false (by omega), decide_eq_true (by omega), decide_eq_false (by omega)⟩)))))
  · exact .inr (.inr (.inr (.inr (.inr (.inr (.inl ⟨decide_eq_false (by omega), decide_eq_true (by omega), decide_eq_false (by omega), decide_eq_false (by omega), decide_eq_true (by omega), decide_eq_false (by omega)⟩))))))
  · exact .inr (.inr (.inr (.inr (.inr (.inr (.inr (⟨decide_eq_false (by omega), decide_eq_false (by omega), decide_eq_false (by omega), decide_eq_false (by omega), decide_eq_false (by omega), decide_eq_false (by omega)⟩)))))))
set_option maxRecDepth 100000 in
set_option maxHeartbeats 4000000 in
theorem rCode_ok {x : Cd} {regs blocks : Int} (h : isCodeB x regs blocks = true) (hr : 0 ≤ regs ∧ regs ≤ 1000000) (hbk : 0 ≤ blocks ∧ blocks ≤ 1000000) (w : World) : Calls Try.prog 28 #[(.agg #[.int .i64 x.op, .int .i64 x.d, .int .i64 x.a, .int .i64 x.b, .int .u32 x.im, .int .i64 x.to]), .int .i64 regs, .int .i64 blocks] w fun e w' => e = .returned (.bool true) ∧ Below w.heap.size w w' := by
  have HB0 := Lib.hid ((Below.refl w.heap.size w).alloc (Nat.le_refl _) (.cells #[.int .i64 x.op, .int .i64 x.d, .int .i64 x.a, .int .i64 x.b, .int .u32 x.im, .int .i64 x.to] 68))
  have HX := Lib.hid (cdAt_new w x 68)
  have HH := Lib.hid (rhas_any x.op)
  have HM := Lib.hid (rMem20_any x.op)
  have HW := Lib.hid rwithin_any
  obtain ⟨h0, hd1, hd0, ha1, ha0, hb1, hb0, ht1, ht0, hi0⟩ := code_parts h
  have hfl := flags x.op h0
  unfold lowA at ha1
  clear h
  generalize fD x.op = bd at *
  generalize fA x.op = ba at *
  generalize fB x.op = bb at *
  generalize fI x.op = bi at *
  generalize fT x.op = bt at *
  generalize fM x.op = bm at *
  obtain ⟨x0, x1, x2, x3, x4, x5⟩ := x
  simp only at h0 hd1 hd0 ha1 ha0 hb1 hb0 ht1 ht0 hi0 HH HM
  have HX : Hid (CdAt (w.alloc (.cells #[.int .i64 x0, .int .i64 x1, .int .i64 x2, .int .i64 x3, .int .u32 x4, .int .i64 x5] 68)) w.heap.size 0 ⟨x0, x1, x2, x3, x4, x5⟩) := HX
  have HB0 : Hid (Below w.heap.size w (w.alloc (.cells #[.int .i64 x0, .int .i64 x1, .int .i64 x2, .int .i64 x3, .int .u32 x4, .int .i64 x5] 68))) := HB0
  rcases hfl with h | h | h | h | h | h | h | h <;> obtain ⟨rfl, rfl, rfl, rfl, rfl, rfl⟩ := h
  · skip
    have hx1 := hd1 rfl
    have hx2 := ha0 rfl; subst hx2
    have hx3 := hb0 rfl; subst hx3
    have hx5 := ht0 rfl; subst hx5
    clear hd1 hd0 ha1 ha0 hb1 hb0 ht1 ht0 hi0
    go_enter Try.func28, Try.ntmps28
    go_upto_region 1 with (fail)
    have HX1 : Hid (CdAt (w.alloc (.cells #[.int .i64 x0, .int .i64 x1, .int .i64 0, .int .i64 0, .int .u32 x4, .int .i64 0] 68)) w.heap.size 0 ⟨x0, x1, 0, 0, x4, 0⟩) := HX
    have HB1 : Hid (Below w.heap.size w (w.alloc (.cells #[.int .i64 x0, .int .i64 x1, .int .i64 0, .int .i64 0, .int .u32 x4, .int .i64 0] 68))) := HB0
    clear HX HB0
    generalize w.alloc (.cells #[.int .i64 x0, .int .i64 x1, .int .i64 0, .int .i64 0, .int .u32 x4, .int .i64 0] 68) = w0 at *
    generalize hq : w.heap.size = q at HX1
    obtain ⟨c0, c1, c2, c3, c4, c5⟩ := cell_six_in0 HX1.out
    simp only at c0 c1 c2 c3 c4 c5
    subst hq
    clear HX1
    go_wp2_with fail
    refine (HW.out _ _ _ _).mono ?_; rintro e v ⟨rfl, rfl⟩
    have hdec : (decide ((0 : Int) ≤ x0) && decide (x0 ≤ 27)) = true := by simp; omega
    rw [hdec]
    go_wp2_with fail
    refine (HH.out _).mono ?_; rintro e v ⟨rfl, rfl⟩
    go_wp2_with fail
    refine (HM.out _).mono ?_; rintro e v ⟨rfl, rfl⟩
    go_wp2_with fail
    refine (HW.out _ _ _ _).mono ?_; rintro e v ⟨rfl, rfl⟩
    have hw1 : (decide ((0 : Int) ≤ x1) && decide (x1 ≤ regs - 1)) = true := by simp; omega
    rw [hw1]
    go_wp2_with fail
    go_ret
    exact ⟨rfl, HB1.out⟩
  · skip
    have hx1 := hd1 rfl
    have hx2 := ha1 rfl
    have hx3 := hb0 rfl; subst hx3
    have hx5 := ht0 rfl; subst hx5
    have hx4 := hi0 rfl; subst hx4
    rw [if_neg (by decide)] at hx2
    clear hd1 hd0 ha1 ha0 hb1 hb0 ht1 ht0 hi0
    go_enter Try.func28, Try.ntmps28
    go_upto_region 1 with (fail)
    have HX1 : Hid (CdAt (w.alloc (.cells #[.int .i64 x0, .int .i64 x1, .int .i64 x2, .int .i64 0, .int .u32 (0 : Nat), .int .i64 0] 68)) w.heap.size 0 ⟨x0, x1, x2, 0, 0, 0⟩) := HX
    have HB1 : Hid (Below w.heap.size w (w.alloc (.cells #[.int .i64 x0, .int .i64 x1, .int .i64 x2, .int .i64 0, .int .u32 (0 : Nat), .int .i64 0] 68))) := HB0
    clear HX HB0
    simp only [Int.natCast_zero] at HX1 HB1
    generalize w.alloc (.cells #[.int .i64 x0, .int .i64 x1, .int .i64 x2, .int .i64 0, .int .u32 0, .int .i64 0] 68) = w0 at *
    generalize hq : w.heap.size = q at HX1
    obtain ⟨c0, c1, c2, c3, c4, c5⟩ := cell_six_in0 HX1.out
    simp only at c0 c1 c2 c3 c4 c5
    subst hq
    clear HX1
    go_wp2_with fail
    refine (HW.out _ _ _ _).mono ?_; rintro e v ⟨rfl, rfl⟩
    have hdec : (decide ((0 : Int) ≤ x0) && decide (x0 ≤ 27)) = true := by simp; omega
    rw [hdec]
    go_wp2_with fail
    refine (HH.out _).mono ?_; rintro e v ⟨rfl, rfl⟩
    go_wp2_with fail
    refine (HM.out _).mono ?_; rintro e v ⟨rfl, rfl⟩
    go_wp2_with fail
    refine (HW.out _ _ _ _).mono ?_; rintro e v ⟨rfl, rfl⟩
    have hw1 : (decide ((0 : Int) ≤ x1) && decide (x1 ≤ regs - 1)) = true := by simp; omega
    rw [hw1]
    go_wp2_with fail
    refine (HW.out _ _ _ _).mono ?_; rintro e v ⟨rfl, rfl⟩
    have hw2 : (decide ((0 : Int) ≤ x2) && decide (x2 ≤ regs - 1)) = true := by simp; omega
    rw [hw2]
    go_wp2_with fail
    go_ret
    exact ⟨rfl, HB1.out⟩
  · skip
    have hx1 := hd1 rfl
    have hx2 := ha1 rfl
    have hx3 := hb1 rfl
    have hx5 := ht0 rfl; subst hx5
    have hx4 := hi0 rfl; subst hx4
    rw [if_neg (by decide)] at hx2
    clear hd1 hd0 ha1 ha0 hb1 hb0 ht1 ht0 hi0
    go_enter Try.func28, Try.ntmps28
    go_upto_region 1 with (fail)
    have HX1 : Hid (CdAt (w.alloc (.cells #[.int .i64 x0, .int .i64 x1, .int .i64 x2, .int .i64 x3, .int .u32 (0 : Nat), .int .i64 0] 68)) w.heap.size 0 ⟨x0, x1, x2, x3, 0, 0⟩) := HX
    have HB1 : Hid (Below w.heap.size w (w.alloc (.cells #[.int .i64 x0, .int .i64 x1, .int .i64 x2, .int .i64 x3, .int .u32 (0 : Nat), .int .i64 0] 68))) := HB0
    clear HX HB0
    simp only [Int.natCast_zero] at HX1 HB1
    generalize w.alloc (.cells #[.int .i64 x0, .int .i64 x1, .int .i64 x2, .int .i64 x3, .int .u32 0, .int .i64 0] 68) = w0 at *
    generalize hq : w.heap.size = q at HX1
    obtain ⟨c0, c1, c2, c3, c4, c5⟩ := cell_six_in0 HX1.out
    simp only at c0 c1 c2 c3 c4 c5
    subst hq
    clear HX1
    go_wp2_with fail
    refine (HW.out _ _ _ _).mono ?_; rintro e v ⟨rfl, rfl⟩
    have hdec : (decide ((0 : Int) ≤ x0) && decide (x0 ≤ 27)) = true := by simp; omega
    rw [hdec]
    go_wp2_with fail
    refine (HH.out _).mono ?_; rintro e v ⟨rfl, rfl⟩
    go_wp2_with fail
    refine (HM.out _).mono ?_; rintro e v ⟨rfl, rfl⟩
    go_wp2_with fail
    refine (HW.out _ _ _ _).mono ?_; rintro e v ⟨rfl, rfl⟩
    have hw1 : (decide ((0 : Int) ≤ x1) && decide (x1 ≤ regs - 1)) = true := by simp; omega
    rw [hw1]
    go_wp2_with fail
    refine (HW.out _ _ _ _).mono ?_; rintro e v ⟨rfl, rfl⟩
    have hw2 : (decide ((0 : Int) ≤ x2) && decide (x2 ≤ regs - 1)) = true := by simp; omega
    rw [hw2]
    go_wp2_with fail
    refine (HW.out _ _ _ _).mono ?_; rintro e v ⟨rfl, rfl⟩
    have hw3 : (decide ((0 : Int) ≤ x3) && decide (x3 ≤ regs - 1)) = true := by simp; omega
    rw [hw3]
    go_wp2_with fail
    go_ret
    exact ⟨rfl, HB1.out⟩
  · skip
    have hx1 := hd1 rfl
    have hx2 := ha1 rfl
    have hx3 := hb0 rfl; subst hx3
    have hx5 := ht0 rfl; subst hx5
    rw [if_pos rfl] at hx2
    clear hd1 hd0 ha1 ha0 hb1 hb0 ht1 ht0 hi0
    go_enter Try.func28, Try.ntmps28
    go_upto_region 1 with (fail)
    have HX1 : Hid (CdAt (w.alloc (.cells #[.int .i64 x0, .int .i64 x1, .int .i64 x2, .int .i64 0, .int .u32 x4, .int .i64 0] 68)) w.heap.size 0 ⟨x0, x1, x2, 0, x4, 0⟩) := HX
    have HB1 : Hid (Below w.heap.size w (w.alloc (.cells #[.int .i64 x0, .int .i64 x1, .int .i64 x2, .int .i64 0, .int .u32 x4, .int .i64 0] 68))) := HB0
    clear HX HB0
    generalize w.alloc (.cells #[.int .i64 x0, .int .i64 x1, .int .i64 x2, .int .i64 0, .int .u32 x4, .int .i64 0] 68) = w0 at *
    generalize hq : w.heap.size = q at HX1
    obtain ⟨c0, c1, c2, c3, c4, c5⟩ := cell_six_in0 HX1.out
    simp only at c0 c1 c2 c3 c4 c5
    subst hq
    clear HX1
    go_wp2_with fail
    refine (HW.out _ _ _ _).mono ?_; rintro e v ⟨rfl, rfl⟩
    have hdec : (decide ((0 : Int) ≤ x0) && decide (x0 ≤ 27)) = true := by simp; omega
    rw [hdec]
    go_wp2_with fail
    refine (HH.out _).mono ?_; rintro e v ⟨rfl, rfl⟩
    go_wp2_with fail
    refine (HM.out _).mono ?_; rintro e v ⟨rfl, rfl⟩
    go_wp2_with fail
    refine (HW.out _ _ _ _).mono ?_; rintro e v ⟨rfl, rfl⟩
    have hw1 : (decide ((0 : Int) ≤ x1) && decide (x1 ≤ regs - 1)) = true := by simp; omega
    rw [hw1]
    go_wp2_with fail
    refine (HW.out _ _ _ _).mono ?_; rintro e v ⟨rfl, rfl⟩
    have hw2 : (decide ((-1 : Int) ≤ x2) && decide (x2 ≤ regs - 1)) = true := by simp; omega
    rw [hw2]
    go_wp2_with fail
    go_ret
    exact ⟨rfl, HB1.out⟩
  · skip
    have hx1 := hd0 rfl; subst hx1
    have hx2 := ha1 rfl
    have hx3 := hb1 rfl
    have hx5 := ht0 rfl; subst hx5
    rw [if_pos rfl] at hx2
    clear hd1 hd0 ha1 ha0 hb1 hb0 ht1 ht0 hi0
    go_enter Try.func28, Try.ntmps28
    go_upto_region 1 with (fail)
    have HX1 : Hid (CdAt (w.alloc (.cells #[.int .i64 x0, .int .i64 0, .int .i64 x2, .int .i64 x3, .int .u32 x4, .int .i64 0] 68)) w.heap.size 0 ⟨x0, 0, x2, x3, x4, 0⟩) := HX
    have HB1 : Hid (Below w.heap.size w (w.alloc (.cells #[.int .i64 x0, .int .i64 0, .int .i64 x2, .int .i64 x3, .int .u32 x4, .int .i64 0] 68))) := HB0
    clear HX HB0
    generalize w.alloc (.cells #[.int .i64 x0, .int .i64 0, .int .i64 x2, .int .i64 x3, .int .u32 x4, .int .i64 0] 68) = w0 at *
    generalize hq : w.heap.size = q at HX1
    obtain ⟨c0, c1, c2, c3, c4, c5⟩ := cell_six_in0 HX1.out
    simp only at c0 c1 c2 c3 c4 c5
    subst hq
    clear HX1
    go_wp2_with fail
    refine (HW.out _ _ _ _).mono ?_; rintro e v ⟨rfl, rfl⟩
    have hdec : (decide ((0 : Int) ≤ x0) && decide (x0 ≤ 27)) = true := by simp; omega
    rw [hdec]
    go_wp2_with fail
    refine (HH.out _).mono ?_; rintro e v ⟨rfl, rfl⟩
    go_wp2_with fail
    refine (HM.out _).mono ?_; rintro e v ⟨rfl, rfl⟩
    go_wp2_with fail
    refine (HW.out _ _ _ _).mono ?_; rintro e v ⟨rfl, rfl⟩
    have hw2 : (decide ((-1 : Int) ≤ x2) && decide (x2 ≤ regs - 1)) = true := by simp; omega
    rw [hw2]
    go_wp2_with fail
    refine (HW.out _ _ _ _).mono ?_; rintro e v ⟨rfl, rfl⟩
    have hw3 : (decide ((0 : Int) ≤ x3) && decide (x3 ≤ regs - 1)) = true := by simp; omega
    rw [hw3]
    go_wp2_with fail
    go_ret
    exact ⟨rfl, HB1.out⟩
  · skip
    have hx1 := hd0 rfl; subst hx1
    have hx2 := ha0 rfl; subst hx2
    have hx3 := hb0 rfl; subst hx3
    have hx5 := ht1 rfl
    have hx4 := hi0 rfl; subst hx4
    clear hd1 hd0 ha1 ha0 hb1 hb0 ht1 ht0 hi0
    go_enter Try.func28, Try.ntmps28
    go_upto_region 1 with (fail)
    have HX1 : Hid (CdAt (w.alloc (.cells #[.int .i64 x0, .int .i64 0, .int .i64 0, .int .i64 0, .int .u32 (0 : Nat), .int .i64 x5] 68)) w.heap.size 0 ⟨x0, 0, 0, 0, 0, x5⟩) := HX
    have HB1 : Hid (Below w.heap.size w (w.alloc (.cells #[.int .i64 x0, .int .i64 0, .int .i64 0, .int .i64 0, .int .u32 (0 : Nat), .int .i64 x5] 68))) := HB0
    clear HX HB0
    simp only [Int.natCast_zero] at HX1 HB1
    generalize w.alloc (.cells #[.int .i64 x0, .int .i64 0, .int .i64 0, .int .i64 0, .int .u32 0, .int .i64 x5] 68) = w0 at *
    generalize hq : w.heap.size = q at HX1
    obtain ⟨c0, c1, c2, c3, c4, c5⟩ := cell_six_in0 HX1.out
    simp only at c0 c1 c2 c3 c4 c5
    subst hq
    clear HX1
    go_wp2_with fail
    refine (HW.out _ _ _ _).mono ?_; rintro e v ⟨rfl, rfl⟩
    have hdec : (decide ((0 : Int) ≤ x0) && decide (x0 ≤ 27)) = true := by simp; omega
    rw [hdec]
    go_wp2_with fail
    refine (HH.out _).mono ?_; rintro e v ⟨rfl, rfl⟩
    go_wp2_with fail
    refine (HM.out _).mono ?_; rintro e v ⟨rfl, rfl⟩
    go_wp2_with fail
    refine (HW.out _ _ _ _).mono ?_; rintro e v ⟨rfl, rfl⟩
    have hw5 : (decide ((0 : Int) ≤ x5) && decide (x5 ≤ blocks - 1)) = true := by simp; omega
    rw [hw5]
    go_wp2_with fail
    go_ret
    exact ⟨rfl, HB1.out⟩
  · skip
    have hx1 := hd0 rfl; subst hx1
    have hx2 := ha1 rfl
    have hx3 := hb0 rfl; subst hx3
    have hx5 := ht1 rfl
    have hx4 := hi0 rfl; subst hx4
    rw [if_neg (by decide)] at hx2
    clear hd1 hd0 ha1 ha0 hb1 hb0 ht1 ht0 hi0
    go_enter Try.func28, Try.ntmps28
    go_upto_region 1 with (fail)
    have HX1 : Hid (CdAt (w.alloc (.cells #[.int .i64 x0, .int .i64 0, .int .i64 x2, .int .i64 0, .int .u32 (0 : Nat), .int .i64 x5] 68)) w.heap.size 0 ⟨x0, 0, x2, 0, 0, x5⟩) := HX
    have HB1 : Hid (Below w.heap.size w (w.alloc (.cells #[.int .i64 x0, .int .i64 0, .int .i64 x2, .int .i64 0, .int .u32 (0 : Nat), .int .i64 x5] 68))) := HB0
    clear HX HB0
    simp only [Int.natCast_zero] at HX1 HB1
    generalize w.alloc (.cells #[.int .i64 x0, .int .i64 0, .int .i64 x2, .int .i64 0, .int .u32 0, .int .i64 x5] 68) = w0 at *
    generalize hq : w.heap.size = q at HX1
    obtain ⟨c0, c1, c2, c3, c4, c5⟩ := cell_six_in0 HX1.out
    simp only at c0 c1 c2 c3 c4 c5
    subst hq
    clear HX1
    go_wp2_with fail
    refine (HW.out _ _ _ _).mono ?_; rintro e v ⟨rfl, rfl⟩
    have hdec : (decide ((0 : Int) ≤ x0) && decide (x0 ≤ 27)) = true := by simp; omega
    rw [hdec]
    go_wp2_with fail
    refine (HH.out _).mono ?_; rintro e v ⟨rfl, rfl⟩
    go_wp2_with fail
    refine (HM.out _).mono ?_; rintro e v ⟨rfl, rfl⟩
    go_wp2_with fail
    refine (HW.out _ _ _ _).mono ?_; rintro e v ⟨rfl, rfl⟩
    have hw2 : (decide ((0 : Int) ≤ x2) && decide (x2 ≤ regs - 1)) = true := by simp; omega
    rw [hw2]
    go_wp2_with fail
    refine (HW.out _ _ _ _).mono ?_; rintro e v ⟨rfl, rfl⟩
    have hw5 : (decide ((0 : Int) ≤ x5) && decide (x5 ≤ blocks - 1)) = true := by simp; omega
    rw [hw5]
    go_wp2_with fail
    go_ret
    exact ⟨rfl, HB1.out⟩
  · skip
    have hx1 := hd0 rfl; subst hx1
    have hx2 := ha0 rfl; subst hx2
    have hx3 := hb0 rfl; subst hx3
    have hx5 := ht0 rfl; subst hx5
    have hx4 := hi0 rfl; subst hx4
    clear hd1 hd0 ha1 ha0 hb1 hb0 ht1 ht0 hi0
    go_enter Try.func28, Try.ntmps28
    go_upto_region 1 with (fail)
    have HX1 : Hid (CdAt (w.alloc (.cells #[.int .i64 x0, .int .i64 0, .int .i64 0, .int .i64 0, .int .u32 (0 : Nat), .int .i64 0] 68)) w.heap.size 0 ⟨x0, 0, 0, 0, 0, 0⟩) := HX
    have HB1 : Hid (Below w.heap.size w (w.alloc (.cells #[.int .i64 x0, .int .i64 0, .int .i64 0, .int .i64 0, .int .u32 (0 : Nat), .int .i64 0] 68))) := HB0
    clear HX HB0
    simp only [Int.natCast_zero] at HX1 HB1
    generalize w.alloc (.cells #[.int .i64 x0, .int .i64 0, .int .i64 0, .int .i64 0, .int .u32 0, .int .i64 0] 68) = w0 at *
    generalize hq : w.heap.size = q at HX1
    obtain ⟨c0, c1, c2, c3, c4, c5⟩ := cell_six_in0 HX1.out
    simp only at c0 c1 c2 c3 c4 c5
    subst hq
    clear HX1
    go_wp2_with fail
    refine (HW.out _ _ _ _).mono ?_; rintro e v ⟨rfl, rfl⟩
    have hdec : (decide ((0 : Int) ≤ x0) && decide (x0 ≤ 27)) = true := by simp; omega
    rw [hdec]
    go_wp2_with fail
    refine (HH.out _).mono ?_; rintro e v ⟨rfl, rfl⟩
    go_wp2_with fail
    refine (HM.out _).mono ?_; rintro e v ⟨rfl, rfl⟩
    go_wp2_with fail
    go_ret
    exact ⟨rfl, HB1.out⟩
end Go.Proofs.Ytjfpaelmcepidaa.PK
