/- Walks of Reached, Before, dominates, Dominates, both. -/
import Derived.Test.YtmljmmnofhhheaaWA
namespace Go.Proofs.Ytmljmmnofhhheaa
open Go.RowKit

theorem NatSl.nil (w : World) : NatSl w (.slice none 0 0) [] := ⟨none, 0, rfl, fun _ hk => absurd hk (Nat.not_lt_zero _)⟩
theorem setUpto_congr {S T : NSet} {n : Nat} (h : ∀ j, j < n → S j = T j) : setUpto S n = setUpto T n := by
  unfold setUpto
  exact List.filter_congr fun j hj => h j (by simpa using hj)
theorem setUpto_more {S : NSet} {n : Nat} (h : ∀ j, n ≤ j → S j = false) (m : Nat) : setUpto S (n + m) = setUpto S n := by
  induction m with
  | zero => rfl
  | succ m ih => rw [← Nat.add_assoc, setUpto_no (h _ (by omega)), ih]
theorem setUpto_ten {S : NSet} {n : Nat} (h : ∀ j, n ≤ j → S j = false) (hn : n ≤ 10) : setUpto S n = setL S := by
  unfold setL
  rw [← setUpto_more h (10 - n), show n + (10 - n) = 10 by omega]
theorem rs_out {g : Gr} {but : Int} {s j : Nat} (ok : OkG g) (hs : s < g.length) (h : g.length ≤ j) : rs g but s j = false := by
  rw [← Bool.not_eq_true, rs_iff]
  intro c
  have := c.lt ok.fits hs
  omega

noncomputable def reachedL (g : List (List Int)) : List Nat := if validE g = 0 then setL (rs (gN g) (-1) 0) else []
def beforeL (g : List (List Int)) (v : Int) : List Nat := if nodeE g [v] = 0 then setL (beforeS (gN g) v (gN g).length) else []
def ListPost (E : Int) (L : List Nat) (w : World) (e : Ending) (w' : World) : Prop := ∃ v, e = .returned (.tuple #[v, .int .i64 E]) ∧ NatSl w' v L ∧ Below w.heap.size w w'
theorem one_ints (w : World) (v : Int) : IntsIn (w.alloc (.cells #[.int .i64 v] 3)) (some ⟨w.heap.size, 0, none⟩) [v] := by
  intro k hk
  have hk : k < 1 := hk
  obtain rfl : k = 0 := by omega
  exact ⟨_, _, rfl, by simp [go_sem]⟩
theorem two_ints (w : World) (a b : Int) : IntsIn (w.alloc (.cells #[.int .i64 a, .int .i64 b] 3)) (some ⟨w.heap.size, 0, none⟩) [a, b] := by
  intro k hk
  have hk : k < 2 := hk
  match k, hk with
  | 0, _ => exact ⟨_, _, rfl, by simp [go_sem]⟩
  | 1, _ => exact ⟨_, _, rfl, by simp [go_sem]⟩

set_option maxHeartbeats 1000000 in
theorem Reached_any (g : List (List Int)) (a : Option Addr) (cap : Nat) (w : World) (hin : RowsIn w a g) (hs : Short g) :
    Calls Try.prog 20 #[.slice a g.length cap] w (ListPost (validE g) (reachedL g) w) := by
  have HV := Lib.hid (Validate_any g a cap w hin hs)
  by_cases hv : validE g = 0
  · have hn : reachedL g = setL (rs (gN g) (-1) 0) := by unfold reachedL; rw [if_pos hv]
    have ok := valid_ok hv
    have HR : Hid (∀ w', Below w.heap.size w w' → Calls Try.prog 44 #[.slice a g.length cap, .int .i64 (-1)] w' fun e w'' => e = .returned (tenV (rs (gN g) (-1) 0)) ∧ Below w'.heap.size w' w'') := Lib.hid fun w' hb => by
      have := reach_any a cap (gN g) (-1) w' ((hin.graph hv).below hb) ok
      rwa [gN_len] at this
    rw [hn]; rw [hv] at HV; rw [hv]
    clear hin hs hv ok hn
    go_enter Try.func20, Try.ntmps20
    go_wp2_with fail
    refine HV.out.mono ?_; rintro e w1 ⟨rfl, hb1⟩
    go_wp2_with fail
    refine (HR.out _ hb1).mono ?_; rintro e w2 ⟨rfl, hb2⟩
    have HB2 := Lib.hid (hb1.trans (hb2.mono hb1.size)); clear hb1 hb2
    go_wp2_with fail
    refine (list_any _ _).mono ?_; rintro e w3 ⟨v, rfl, hv3, hb3⟩
    go_wp2_with fail
    go_ret2
    exact ⟨v, rfl, hv3, HB2.out.trans (hb3.mono HB2.out.size)⟩
  · have hn : reachedL g = [] := by unfold reachedL; rw [if_neg hv]
    rw [hn]
    generalize validE g = V at *
    have hvb : (V != 0) = true := by simpa using hv
    clear hv hn
    go_enter Try.func20, Try.ntmps20
    go_wp2_with fail
    refine HV.out.mono ?_; rintro e w1 ⟨rfl, hb1⟩
    go_wp2_with fail
    go_ret2
    exact ⟨_, rfl, NatSl.nil _, hb1⟩

set_option maxHeartbeats 1000000 in
theorem rReached_any (g : List (List Int)) (a : Option Addr) (cap : Nat) (w : World) (hin : RowsIn w a g) (hs : Short g) :
    Calls Try.prog 22 #[.slice a g.length cap] w (ListPost (validE g) (reachedL g) w) := by
  have HV := Lib.hid (rValidate_any g a cap w hin hs)
  by_cases hv : validE g = 0
  · have hn : reachedL g = setL (rs (gN g) (-1) 0) := by unfold reachedL; rw [if_pos hv]
    have ok := valid_ok hv
    have HR : Hid (Calls Try.prog 48 #[.slice a g.length cap, .int .i64 0, .int .i64 (-1)] w fun e w'' => ∃ v, e = .returned v ∧ BoolSl w'' v g.length (rs (gN g) (-1) 0) ∧ Below w.heap.size w w'') := Lib.hid (by
      have := rReach_any a cap (gN g) 0 (-1) w (hin.graph hv) ok ok.pos
      rwa [gN_len] at this)
    have hl := setUpto_ten (fun j h => rs_out (but := -1) ok ok.pos h) ok.ten
    rw [gN_len] at hl
    rw [hn, ← hl]; rw [hv] at HV; rw [hv]
    have h10 := ok.ten
    rw [gN_len] at h10
    clear hin hs hv ok hn hl
    go_enter Try.func22, Try.ntmps22
    go_wp2_with fail
    refine HV.out.mono ?_; rintro e w1 ⟨rfl, rfl⟩
    go_wp2_with fail
    refine HR.out.mono ?_; rintro e w2 ⟨v, rfl, hbs, hb2⟩
    go_wp2_with fail
    refine (rSet_any _ _ _ _ hbs (by omega)).mono ?_; rintro e w3 ⟨v3, rfl, hv3, hb3⟩
    go_wp2_with fail
    go_ret2
    exact ⟨v3, rfl, hv3, hb2.trans (hb3.mono hb2.size)⟩
  · have hn : reachedL g = [] := by unfold reachedL; rw [if_neg hv]
    rw [hn]
    generalize validE g = V at *
    have hvb : (V != 0) = true := by simpa using hv
    clear hv hn
    go_enter Try.func22, Try.ntmps22
    go_wp2_with fail
    refine HV.out.mono ?_; rintro e w1 ⟨rfl, rfl⟩
    go_wp2_with fail
    go_ret2
    exact ⟨_, rfl, NatSl.nil _, Below.refl _ _⟩

set_option maxHeartbeats 1000000 in
theorem Before_any (g : List (List Int)) (a : Option Addr) (cap : Nat) (v : Int) (w : World) (hin : RowsIn w a g) (hs : Short g) :
    Calls Try.prog 23 #[.slice a g.length cap, .int .i64 v] w (ListPost (nodeE g [v]) (beforeL g v) w) := by
  have hbl : Below w.heap.size w (w.alloc (.cells #[.int .i64 v] 3)) := (Below.refl _ _).alloc (Nat.le_refl _) _
  have HV := Lib.hid (noded_any g a cap [v] _ 1 _ (hin.below hbl) hs (one_ints w v) (by simp))
  by_cases hv : nodeE g [v] = 0
  · have hn : beforeL g v = setL (beforeS (gN g) v (gN g).length) := by unfold beforeL; rw [if_pos hv]
    have hval := node_valid hv
    have ok := valid_ok hval.1
    have HR : Hid (∀ w', Below w.heap.size w w' → Calls Try.prog 52 #[.slice a g.length cap, .int .i64 v] w' fun e w'' => e = .returned (tenV (beforeS (gN g) v (gN g).length)) ∧ Below w'.heap.size w' w'') := Lib.hid fun w' hb => by
      have := before_any a cap (gN g) v w' ((hin.graph hval.1).below hb) ok
      rwa [gN_len] at this ⊢
    rw [hn]; rw [hv] at HV; rw [hv]
    clear hin hs hv ok hn hval hbl
    go_enter Try.func23, Try.ntmps23
    go_wp2_with fail
    refine HV.out.mono ?_; rintro e w1 ⟨rfl, hb1⟩
    have hb1 := ((Below.refl _ _).alloc (Nat.le_refl _) _).trans (hb1.mono (by simp) : Below w.heap.size _ w1)
    go_wp2_with fail
    refine (HR.out _ hb1).mono ?_; rintro e w2 ⟨rfl, hb2⟩
    have HB2 := Lib.hid (hb1.trans (hb2.mono hb1.size)); clear hb1 hb2
    go_wp2_with fail
    refine (list_any _ _).mono ?_; rintro e w3 ⟨v, rfl, hv3, hb3⟩
    go_wp2_with fail
    go_ret2
    exact ⟨v, rfl, hv3, HB2.out.trans (hb3.mono HB2.out.size)⟩
  · have hn : beforeL g v = [] := by unfold beforeL; rw [if_neg hv]
    rw [hn]
    generalize nodeE g [v] = V at *
    have hvb : (V != 0) = true := by simpa using hv
    clear hv hn hbl
    go_enter Try.func23, Try.ntmps23
    go_wp2_with fail
    refine HV.out.mono ?_; rintro e w1 ⟨rfl, hb1⟩
    have hb1 := ((Below.refl _ _).alloc (Nat.le_refl _) _).trans (hb1.mono (by simp) : Below w.heap.size _ w1)
    go_wp2_with fail
    go_ret2
    exact ⟨_, rfl, NatSl.nil _, hb1⟩

set_option maxRecDepth 100000 in
set_option maxHeartbeats 1000000 in
theorem rBefore_any (g : List (List Int)) (a : Option Addr) (cap : Nat) (v : Int) (w : World) (hin : RowsIn w a g) (hs : Short g) :
    Calls Try.prog 24 #[.slice a g.length cap, .int .i64 v] w (ListPost (nodeE g [v]) (beforeL g v) w) := by
  have hbl : Below w.heap.size w (w.alloc (.cells #[.int .i64 v] 3)) := (Below.refl _ _).alloc (Nat.le_refl _) _
  have HV := Lib.hid (rNode_any g a cap [v] _ 1 _ (hin.below hbl) hs (one_ints w v) (by simp))
  by_cases hv : nodeE g [v] = 0
  · have hn : beforeL g v = setL (beforeS (gN g) v (gN g).length) := by unfold beforeL; rw [if_pos hv]
    have hval := node_valid hv
    have ok := valid_ok hval.1
    have hl : setL (beforeS (gN g) v (gN g).length) = setUpto (fun a => goesI (gN g) a v) g.length := by
      rw [← setUpto_ten (n := (gN g).length) (fun j h => by simp [beforeS]; omega) ok.ten, gN_len]
      exact setUpto_congr fun j hj => by simp [beforeS, hj]
    have hg10 : g.length ≤ 10 := by have := ok.ten; rwa [gN_len] at this
    have HG : Hid (∀ k w', k < g.length → Below w.heap.size w w' → Calls Try.prog 53 #[.slice a g.length cap, .int .i64 k, .int .i64 v] w' fun e w'' => e = .returned (.bool (goesI (gN g) k v)) ∧ w' = w'') := Lib.hid fun k w' hk hb => by
      have := rGoes_any a cap (gN g) k v w' ((hin.graph hval.1).below hb) ok (by rwa [gN_len])
      rwa [gN_len] at this
    rw [hn, hl]; rw [hv] at HV; rw [hv]
    obtain ⟨i0, hi, hz0, hz1, hz2⟩ := info_parts Try.infoInt
    have HBL := Lib.hid hbl
    clear hin hs hv ok hn hval hbl hl
    generalize hS : (fun a => goesI (gN g) a v) = S at *
    have hS' : ∀ k, goesI (gN g) k v = S k := fun k => by rw [← hS]
    have HS' := Lib.hid hS'
    clear hS hS'
    go_enter Try.func24, Try.ntmps24
    go_wp2_with fail
    refine HV.out.mono ?_; rintro e w1 ⟨rfl, rfl⟩
    go_wp2_with fail
    go_loopw [7, 8] (fun tv i wr => ∃ k : Nat, k ≤ g.length ∧ i = .int .i64 k ∧ wr.ownsRow w.heap.size 3 1 tv (setUpto S k).length (encN (setUpto S k)) ∧ Below w.heap.size w wr) (fun _ i _ => g.length - (intOf i).toNat)
    case atStart => exact ⟨0, Nat.zero_le _, rfl, World.ownsRow_nil _ _ _ _, HBL.out⟩
    case round =>
      obtain ⟨k, hk, rfl, hown, hb⟩ := hrel
      by_cases hlt : k < g.length
      · have hCall := Lib.hid (HG.out k wr hlt hb)
        rw [HS'.out] at hCall
        have HB := Lib.hid hb; clear hb
        have hsl := setUpto_len S k
        cases hs : S k
        · rw [hs] at hCall
          have HS := Lib.hid (setUpto_no hs); clear hs
          have HO := Lib.hid hown; clear hown
          go_wp2_with (first | (go_at_call 53; refine hCall.out.mono ?_; rintro e w2 ⟨rfl, rfl⟩))
          go_roundw
          case rel => exact ⟨k + 1, by omega, by go_num, by rw [HS.out]; exact HO.out, HB.out⟩
          case measure => simp [intOf]; omega
        · rw [hs] at hCall
          have HS := Lib.hid (setUpto_yes hs); clear hs
          go_wp2_with (first | (go_at_call 53; refine hCall.out.mono ?_; rintro e w2 ⟨rfl, rfl⟩) | (at_builtin; refine wpList_append_own _ rfl _ _ 32 rfl w.heap.size 3 i0 (.int .i64 0) 1 8 Try.underlying32 hi hz0 hz1 hz2 rfl (by decide) _ _ _ rfl (hown.alloc _) ⟨wr.heap.size, 0, none⟩ 1 1 [.int .i64 k] rfl rfl (cell_one_new _ _ _) one_int (by unfold maxLen; omega) (by omega) (by have := HB.out.size; simp; omega) ?_; intro v' w1 hown' hgrow _))
          have hb1 := (HB.out.alloc HB.out.size _).grown hgrow (by have := HB.out.size; simp; omega) (fun k hk => (hown.lt k hk).1)
          have HO := Lib.hid hown'
          have HB1 := Lib.hid hb1
          clear hown hown' hgrow hb1
          go_wp2_with fail
          go_roundw
          case rel => exact ⟨k + 1, by omega, by go_num, by rw [HS.out, encN_snoc, List.length_append]; exact HO.out, HB1.out⟩
          case measure => simp [intOf]; omega
      · obtain rfl : k = g.length := by omega
        have HO := Lib.hid hown; clear hown
        go_wp2_with fail
        go_ret2
        exact ⟨_, rfl, natSl_of_owns HO.out, hb⟩
  · have hn : beforeL g v = [] := by unfold beforeL; rw [if_neg hv]
    rw [hn]
    generalize nodeE g [v] = V at *
    have hvb : (V != 0) = true := by simpa using hv
    have HBL := Lib.hid hbl
    clear hv hn hbl
    go_enter Try.func24, Try.ntmps24
    go_wp2_with fail
    refine HV.out.mono ?_; rintro e w1 ⟨rfl, rfl⟩
    go_wp2_with fail
    go_ret2
    exact ⟨_, rfl, NatSl.nil _, HBL.out⟩
end Go.Proofs.Ytmljmmnofhhheaa
