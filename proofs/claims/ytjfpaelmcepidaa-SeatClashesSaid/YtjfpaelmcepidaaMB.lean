/- The walks of the specification's result, breaks, bytes, has, isMemory, within. -/
import Derived.Test.YtjfpaelmcepidaaMA
namespace Go.Proofs.Ytjfpaelmcepidaa.PK
open Go.RowKit

theorem wrap32_zero {b : Int} (hb : isW b) (h : wrap32 b = 0) : b = 0 := by
  obtain ⟨h0, h1⟩ := hb
  unfold wrap32 at h
  omega
theorem result_any {op a b : Int} (ho : 2 ≤ op ∧ op ≤ 17) (ha : isW a) (hb : isW b) (hk : brkF op a b = false) (w : World) : Calls Try.prog 70 #[.int .i64 op, .int .u32 a, .int .u32 b] w fun e w' => e = .returned (.int .u32 (resF op a b)) ∧ w = w' := by
  have hc : op = 2 ∨ op = 3 ∨ op = 4 ∨ op = 5 ∨ op = 6 ∨ op = 7 ∨ op = 8 ∨ op = 9 ∨ op = 10 ∨ op = 11 ∨ op = 12 ∨ op = 13 ∨ op = 14 ∨ op = 15 ∨ op = 16 ∨ op = 17 := by omega
  rcases hc with rfl | rfl | rfl | rfl | rfl | rfl | rfl | rfl | rfl | rfl | rfl | rfl | rfl | rfl | rfl | rfl
  · exact res2 a b ha hb w
  · exact res3 a b ha hb w
  · exact res4 a b ha hb w
  · exact res5 a b ha hb (brkF_no hk (by omega)) w
  · exact res6 a b ha hb (brkF_no hk (by omega)) w
  · exact res7 a b ha hb (fun h => brkF_no hk (by omega) (wrap32_zero hb h)) w
  · exact res8 a b ha hb (fun h => brkF_no hk (by omega) (wrap32_zero hb h)) w
  · exact res9 a b ha hb w
  · exact res10 a b ha hb w
  · exact res11 a b ha hb w
  · exact res12 a b ha hb w
  · exact res13 a b ha hb w
  · exact res14 a b ha hb w
  · exact res15 a b ha hb w
  · exact res16 a b ha hb w
  · exact res17 a b w
set_option maxHeartbeats 1000000 in
theorem breaks_any (op a b : Int) (w : World) : Calls Try.prog 69 #[.int .i64 op, .int .u32 a, .int .u32 b] w fun e w' => e = .returned (.bool (brkF op a b)) ∧ w = w' := by
  by_cases h5 : op = 5
  · subst h5
    go_enter Try.func69, Try.ntmps69
    go_wp2_with fail
    go_ret
    exact ⟨ret_bool (by simp [brkF]; try rfl), rfl⟩
  by_cases h6 : op = 6
  · subst h6
    go_enter Try.func69, Try.ntmps69
    go_wp2_with fail
    go_ret
    exact ⟨ret_bool (by simp [brkF]; try rfl), rfl⟩
  by_cases h7 : op = 7
  · subst h7
    by_cases hb : b = 0
    · subst hb
      go_enter Try.func69, Try.ntmps69
      go_wp2_with fail
      go_ret
      exact ⟨ret_bool (by simp [brkF]), rfl⟩
    · have hb2 : (b == 0) = false := by simpa using hb
      by_cases ha : a = 2147483648
      · subst ha
        go_enter Try.func69, Try.ntmps69
        go_wp2_with fail
        go_ret
        exact ⟨ret_bool (by simp [brkF, hb]; try rfl), rfl⟩
      · have ha2 : (a == 2147483648) = false := by simpa using ha
        go_enter Try.func69, Try.ntmps69
        go_wp2_with fail
        go_ret
        exact ⟨ret_bool (by simp [brkF, hb, ha]), rfl⟩
  by_cases h8 : op = 8
  · subst h8
    by_cases hb : b = 0
    · subst hb
      go_enter Try.func69, Try.ntmps69
      go_wp2_with fail
      go_ret
      exact ⟨ret_bool (by simp [brkF]), rfl⟩
    · have hb2 : (b == 0) = false := by simpa using hb
      by_cases ha : a = 2147483648
      · subst ha
        go_enter Try.func69, Try.ntmps69
        go_wp2_with fail
        go_ret
        exact ⟨ret_bool (by simp [brkF, hb]; try rfl), rfl⟩
      · have ha2 : (a == 2147483648) = false := by simpa using ha
        go_enter Try.func69, Try.ntmps69
        go_wp2_with fail
        go_ret
        exact ⟨ret_bool (by simp [brkF, hb, ha]), rfl⟩
  go_enter Try.func69, Try.ntmps69
  go_wp2_with fail
  go_ret
  exact ⟨ret_bool (by simp [brkF, h5, h6, h7, h8]), rfl⟩
theorem bytes_any {op : Int} (ho : 18 ≤ op ∧ op ≤ 23) (w : World) : Calls Try.prog 66 #[.int .i64 op] w fun e w' => e = .returned (.int .i64 (nB op)) ∧ w = w' := by
  have hc : op = 18 ∨ op = 19 ∨ op = 20 ∨ op = 21 ∨ op = 22 ∨ op = 23 := by omega
  rcases hc with rfl | rfl | rfl | rfl | rfl | rfl
  · go_enter Try.func66, Try.ntmps66
    go_wp2_with fail
    go_ret
    exact ⟨rfl, rfl⟩
  · go_enter Try.func66, Try.ntmps66
    go_wp2_with fail
    go_ret
    exact ⟨rfl, rfl⟩
  · go_enter Try.func66, Try.ntmps66
    go_wp2_with fail
    go_ret
    exact ⟨rfl, rfl⟩
  · go_enter Try.func66, Try.ntmps66
    go_wp2_with fail
    go_ret
    exact ⟨rfl, rfl⟩
  · go_enter Try.func66, Try.ntmps66
    go_wp2_with fail
    go_ret
    exact ⟨rfl, rfl⟩
  · go_enter Try.func66, Try.ntmps66
    go_wp2_with fail
    go_ret
    exact ⟨rfl, rfl⟩
theorem rMem20_any (n : Int) (w : World) : Calls Try.prog 65 #[.int .i64 n] w fun e w' => e = .returned (.bool (fM n)) ∧ w = w' := by
  go_enter Try.func65, Try.ntmps65
  go_upto_region 1 with (fail)
  by_cases h0 : 18 ≤ n
  · by_cases h1 : n ≤ 23
    · go_wp2_with fail
      go_ret
      exact ⟨ret_bool (by unfold fM; simp [h0, h1]), rfl⟩
    · go_wp2_with fail
      go_ret
      exact ⟨ret_bool (by unfold fM; simp; omega), rfl⟩
  · go_wp2_with fail
    go_ret
    exact ⟨ret_bool (by unfold fM; simp; omega), rfl⟩
theorem rwithin_any (n lo hi : Int) (w : World) : Calls Try.prog 26 #[.int .i64 n, .int .i64 lo, .int .i64 hi] w fun e w' => e = .returned (.bool (decide (lo ≤ n) && decide (n ≤ hi))) ∧ w = w' := by
  go_enter Try.func26, Try.ntmps26
  go_upto_region 1 with (fail)
  by_cases h0 : lo ≤ n
  · by_cases h1 : n ≤ hi
    · go_wp2_with fail
      go_ret
      exact ⟨ret_bool (by simp [h0, h1]), rfl⟩
    · go_wp2_with fail
      go_ret
      exact ⟨ret_bool (by simp; omega), rfl⟩
  · go_wp2_with fail
    go_ret
    exact ⟨ret_bool (by simp; omega), rfl⟩
theorem results_tmp5 {fn : Func} {t u v x y : Tmp} (h : fn.results = #[.tmp t, .tmp u, .tmp v, .tmp x, .tmp y]) (tmps : Array Value) (P : Program) (w : World) :
    (results fn tmps).run P w = .ok (.tuple #[tmps.getD t undef, tmps.getD u undef, tmps.getD v undef, tmps.getD x undef, tmps.getD y undef]) w := by
  simp [results, h]
theorem ret5 {a b c d e a' b' c' d' e' : Bool} (h1 : a = a') (h2 : b = b') (h3 : c = c') (h4 : d = d') (h5 : e = e') : Ending.returned (.tuple #[.bool a, .bool b, .bool c, .bool d, .bool e]) = .returned (.tuple #[.bool a', .bool b', .bool c', .bool d', .bool e']) := by rw [h1, h2, h3, h4, h5]
set_option maxHeartbeats 1000000 in
theorem rhas_any (op : Int) (w : World) : Calls Try.prog 64 #[.int .i64 op] w fun e w' => e = .returned (.tuple #[.bool (fD op), .bool (fA op), .bool (fB op), .bool (fI op), .bool (fT op)]) ∧ w = w' := by
  have HR := Lib.hid (fun a b c d e h1 h2 h3 h4 h5 => @ret5 a b c d e (fD op) (fA op) (fB op) (fI op) (fT op) h1 h2 h3 h4 h5)
  by_cases h0 : op = 0
  · subst h0
    go_enter Try.func64, Try.ntmps64
    go_wp2_with fail
    ((try simp only [Exit.inBlock, Exit.then]); refine bodyPost_ret (results_tmp5 rfl _ _ _) rfl ?_)
    exact ⟨HR.out _ _ _ _ _ (by unfold fD; simp; try omega) (by unfold fA; simp; try omega) (by unfold fB; simp; try omega) (by unfold fI; simp; try omega) (by unfold fT; simp; try omega), rfl⟩
  by_cases h1 : op = 1
  · subst h1
    go_enter Try.func64, Try.ntmps64
    go_wp2_with fail
    ((try simp only [Exit.inBlock, Exit.then]); refine bodyPost_ret (results_tmp5 rfl _ _ _) rfl ?_)
    exact ⟨HR.out _ _ _ _ _ (by unfold fD; simp; try omega) (by unfold fA; simp; try omega) (by unfold fB; simp; try omega) (by unfold fI; simp; try omega) (by unfold fT; simp; try omega), rfl⟩
  by_cases r1 : 2 ≤ op ∧ op ≤ 17
  · obtain ⟨r1a, r1b⟩ := r1
    go_enter Try.func64, Try.ntmps64
    go_wp2_with fail
    ((try simp only [Exit.inBlock, Exit.then]); refine bodyPost_ret (results_tmp5 rfl _ _ _) rfl ?_)
    exact ⟨HR.out _ _ _ _ _ (by unfold fD; simp; try omega) (by unfold fA; simp; try omega) (by unfold fB; simp; try omega) (by unfold fI; simp; try omega) (by unfold fT; simp; try omega), rfl⟩
  by_cases r2 : 18 ≤ op ∧ op ≤ 20
  · obtain ⟨r2a, r2b⟩ := r2
    go_enter Try.func64, Try.ntmps64
    go_wp2_with fail
    ((try simp only [Exit.inBlock, Exit.then]); refine bodyPost_ret (results_tmp5 rfl _ _ _) rfl ?_)
    exact ⟨HR.out _ _ _ _ _ (by unfold fD; simp; try omega) (by unfold fA; simp; try omega) (by unfold fB; simp; try omega) (by unfold fI; simp; try omega) (by unfold fT; simp; try omega), rfl⟩
  by_cases r3 : 21 ≤ op ∧ op ≤ 23
  · obtain ⟨r3a, r3b⟩ := r3
    go_enter Try.func64, Try.ntmps64
    go_wp2_with fail
    ((try simp only [Exit.inBlock, Exit.then]); refine bodyPost_ret (results_tmp5 rfl _ _ _) rfl ?_)
    exact ⟨HR.out _ _ _ _ _ (by unfold fD; simp; try omega) (by unfold fA; simp; try omega) (by unfold fB; simp; try omega) (by unfold fI; simp; try omega) (by unfold fT; simp; try omega), rfl⟩
  by_cases h24 : op = 24
  · subst h24
    go_enter Try.func64, Try.ntmps64
    go_wp2_with fail
    ((try simp only [Exit.inBlock, Exit.then]); refine bodyPost_ret (results_tmp5 rfl _ _ _) rfl ?_)
    exact ⟨HR.out _ _ _ _ _ (by unfold fD; simp; try omega) (by unfold fA; simp; try omega) (by unfold fB; simp; try omega) (by unfold fI; simp; try omega) (by unfold fT; simp; try omega), rfl⟩
  by_cases h25 : op = 25
  · subst h25
    go_enter Try.func64, Try.ntmps64
    go_wp2_with fail
    ((try simp only [Exit.inBlock, Exit.then]); refine bodyPost_ret (results_tmp5 rfl _ _ _) rfl ?_)
    exact ⟨HR.out _ _ _ _ _ (by unfold fD; simp; try omega) (by unfold fA; simp; try omega) (by unfold fB; simp; try omega) (by unfold fI; simp; try omega) (by unfold fT; simp; try omega), rfl⟩
  by_cases hn : op < 0
  · skip
    go_enter Try.func64, Try.ntmps64
    go_wp2_with fail
    ((try simp only [Exit.inBlock, Exit.then]); refine bodyPost_ret (results_tmp5 rfl _ _ _) rfl ?_)
    exact ⟨HR.out _ _ _ _ _ (by unfold fD; simp; try omega) (by unfold fA; simp; try omega) (by unfold fB; simp; try omega) (by unfold fI; simp; try omega) (by unfold fT; simp; try omega), rfl⟩
  · have hg : 26 ≤ op := by omega
    go_enter Try.func64, Try.ntmps64
    go_wp2_with fail
    ((try simp only [Exit.inBlock, Exit.then]); refine bodyPost_ret (results_tmp5 rfl _ _ _) rfl ?_)
    exact ⟨HR.out _ _ _ _ _ (by unfold fD; simp; try omega) (by unfold fA; simp; try omega) (by unfold fB; simp; try omega) (by unfold fI; simp; try omega) (by unfold fT; simp; try omega), rfl⟩
end Go.Proofs.Ytjfpaelmcepidaa.PK
