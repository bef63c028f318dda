/- The walk of a set's list. -/
import Derived.Test.YtmljmmnofhhheaaW1
namespace Go.Proofs.Ytmljmmnofhhheaa
open Go.RowKit

/-- A slice of these numbers. -/
def NatSl (w : World) (v : Value) (xs : List Nat) : Prop := ∃ a cap, v = .slice a xs.length cap ∧ NatsIn w a xs
theorem NatSl.below {w w' : World} {v : Value} {xs : List Nat} (h : NatSl w v xs) (hb : Below w.heap.size w w') : NatSl w' v xs := by
  obtain ⟨a, cap, rfl, hn⟩ := h
  exact ⟨a, cap, rfl, hn.below hb⟩
def encN (xs : List Nat) : List Value := xs.map fun x => .int .i64 (x : Nat)
theorem encN_len (xs : List Nat) : (encN xs).length = xs.length := by simp [encN]
theorem natSl_of_owns {w : World} {base : Nat} {e : TypeId} {v : Value} {xs : List Nat} (h : w.ownsRow base e 1 v xs.length (encN xs)) : NatSl w v xs := by
  obtain ⟨_, h | ⟨g, cap, cur, rfl, hb, hg, hnc, hm, hcs, ht⟩⟩ := h
  · obtain ⟨rfl, h0⟩ := h
    have : xs = [] := List.length_eq_zero_iff.1 h0
    subst this
    exact ⟨none, 0, rfl, fun k hk => absurd hk (Nat.not_lt_zero _)⟩
  · refine ⟨_, cap, rfl, fun k hk => ⟨g, 0, rfl, ?_⟩⟩
    rw [Nat.zero_add, cell_of_row w g k _ _ _ hg]
    have : (encN xs)[k]? = some (.int .i64 (xs.getD k 0 : Nat)) := by
      simp [encN, List.getElem?_eq_getElem hk, List.getD_eq_getElem?_getD]
    rw [← ht, List.getElem?_take, if_pos (by omega)] at this
    simpa using this

/-- The nodes of a set below k, in ascending order. -/
def setUpto (S : NSet) (k : Nat) : List Nat := (List.range k).filter S
def setL (S : NSet) : List Nat := setUpto S 10
theorem setUpto_yes {S : NSet} {k : Nat} (h : S k = true) : setUpto S (k + 1) = setUpto S k ++ [k] := by simp [setUpto, List.range_succ, List.filter_append, h]
theorem setUpto_no {S : NSet} {k : Nat} (h : S k = false) : setUpto S (k + 1) = setUpto S k := by simp [setUpto, List.range_succ, List.filter_append, h]
theorem setUpto_len (S : NSet) (k : Nat) : (setUpto S k).length ≤ k := by
  unfold setUpto; exact Nat.le_trans (List.length_filter_le _ _) (by simp)
theorem ix0 (S : NSet) (w : World) : (Instr.index 54 (.agg #[.bool (S 0), .bool (S 1), .bool (S 2), .bool (S 3), .bool (S 4), .bool (S 5), .bool (S 6), .bool (S 7), .bool (S 8), .bool (S 9)]) (.int .i64 ((0 : Nat) : Int))).run Try.prog w = .ok (.bool (S 0)) w := by kernel_rfl
theorem ix1 (S : NSet) (w : World) : (Instr.index 54 (.agg #[.bool (S 0), .bool (S 1), .bool (S 2), .bool (S 3), .bool (S 4), .bool (S 5), .bool (S 6), .bool (S 7), .bool (S 8), .bool (S 9)]) (.int .i64 ((1 : Nat) : Int))).run Try.prog w = .ok (.bool (S 1)) w := by kernel_rfl
theorem ix2 (S : NSet) (w : World) : (Instr.index 54 (.agg #[.bool (S 0), .bool (S 1), .bool (S 2), .bool (S 3), .bool (S 4), .bool (S 5), .bool (S 6), .bool (S 7), .bool (S 8), .bool (S 9)]) (.int .i64 ((2 : Nat) : Int))).run Try.prog w = .ok (.bool (S 2)) w := by kernel_rfl
theorem ix3 (S : NSet) (w : World) : (Instr.index 54 (.agg #[.bool (S 0), .bool (S 1), .bool (S 2), .bool (S 3), .bool (S 4), .bool (S 5), .bool (S 6), .bool (S 7), .bool (S 8), .bool (S 9)]) (.int .i64 ((3 : Nat) : Int))).run Try.prog w = .ok (.bool (S 3)) w := by kernel_rfl
theorem ix4 (S : NSet) (w : World) : (Instr.index 54 (.agg #[.bool (S 0), .bool (S 1), .bool (S 2), .bool (S 3), .bool (S 4), .bool (S 5), .bool (S 6), .bool (S 7), .bool (S 8), .bool (S 9)]) (.int .i64 ((4 : Nat) : Int))).run Try.prog w = .ok (.bool (S 4)) w := by kernel_rfl
theorem ix5 (S : NSet) (w : World) : (Instr.index 54 (.agg #[.bool (S 0), .bool (S 1), .bool (S 2), .bool (S 3), .bool (S 4), .bool (S 5), .bool (S 6), .bool (S 7), .bool (S 8), .bool (S 9)]) (.int .i64 ((5 : Nat) : Int))).run Try.prog w = .ok (.bool (S 5)) w := by kernel_rfl
theorem ix6 (S : NSet) (w : World) : (Instr.index 54 (.agg #[.bool (S 0), .bool (S 1), .bool (S 2), .bool (S 3), .bool (S 4), .bool (S 5), .bool (S 6), .bool (S 7), .bool (S 8), .bool (S 9)]) (.int .i64 ((6 : Nat) : Int))).run Try.prog w = .ok (.bool (S 6)) w := by kernel_rfl
theorem ix7 (S : NSet) (w : World) : (Instr.index 54 (.agg #[.bool (S 0), .bool (S 1), .bool (S 2), .bool (S 3), .bool (S 4), .bool (S 5), .bool (S 6), .bool (S 7), .bool (S 8), .bool (S 9)]) (.int .i64 ((7 : Nat) : Int))).run Try.prog w = .ok (.bool (S 7)) w := by kernel_rfl
theorem ix8 (S : NSet) (w : World) : (Instr.index 54 (.agg #[.bool (S 0), .bool (S 1), .bool (S 2), .bool (S 3), .bool (S 4), .bool (S 5), .bool (S 6), .bool (S 7), .bool (S 8), .bool (S 9)]) (.int .i64 ((8 : Nat) : Int))).run Try.prog w = .ok (.bool (S 8)) w := by kernel_rfl
theorem ix9 (S : NSet) (w : World) : (Instr.index 54 (.agg #[.bool (S 0), .bool (S 1), .bool (S 2), .bool (S 3), .bool (S 4), .bool (S 5), .bool (S 6), .bool (S 7), .bool (S 8), .bool (S 9)]) (.int .i64 ((9 : Nat) : Int))).run Try.prog w = .ok (.bool (S 9)) w := by kernel_rfl
theorem index_ten (S : NSet) (k : Nat) (hk : k < 10) (w : World) :
    (Instr.index 54 (.agg #[.bool (S 0), .bool (S 1), .bool (S 2), .bool (S 3), .bool (S 4), .bool (S 5), .bool (S 6), .bool (S 7), .bool (S 8), .bool (S 9)]) (.int .i64 k)).run Try.prog w = .ok (.bool (S k)) w := by
  have : k = 0 ∨ k = 1 ∨ k = 2 ∨ k = 3 ∨ k = 4 ∨ k = 5 ∨ k = 6 ∨ k = 7 ∨ k = 8 ∨ k = 9 := by omega
  rcases this with rfl | rfl | rfl | rfl | rfl | rfl | rfl | rfl | rfl | rfl
  · exact ix0 S w
  · exact ix1 S w
  · exact ix2 S w
  · exact ix3 S w
  · exact ix4 S w
  · exact ix5 S w
  · exact ix6 S w
  · exact ix7 S w
  · exact ix8 S w
  · exact ix9 S w
theorem Try.infoInt : (Try.prog.info? 3).map (fun i => (i.zero, i.size, i.bytes)) = some (some (.int .i64 0), 1, 8) := by kernel_rfl
theorem one_int {k : Int} : ∀ u ∈ [Value.int .i64 k], u.oneCell' = true := by simp [Value.oneCell']
theorem encN_snoc (xs : List Nat) (x : Nat) : encN (xs ++ [x]) = encN xs ++ [.int .i64 (x : Nat)] := by simp [encN]

set_option maxRecDepth 100000 in
set_option maxHeartbeats 1000000 in
theorem list_any (S : NSet) (w : World) :
    Calls Try.prog 45 #[tenV S] w fun e w' => ∃ v, e = .returned v ∧ NatSl w' v (setL S) ∧ Below w.heap.size w w' := by
  unfold tenV bools
  obtain ⟨i0, hi, hz0, hz1, hz2⟩ := info_parts Try.infoInt
  go_enter Try.func45, Try.ntmps45
  go_wp2_with fail
  go_loopw [3, 7] (fun v i wr => ∃ k : Nat, k ≤ 10 ∧ i = .int .i64 k ∧ wr.ownsRow w.heap.size 3 1 v (setUpto S k).length (encN (setUpto S k)) ∧ Below w.heap.size w wr) (fun _ i _ => 10 - (intOf i).toNat)
  case atStart => exact ⟨0, Nat.zero_le _, rfl, World.ownsRow_nil _ _ _ _, (Below.refl _ _).alloc (Nat.le_refl _) _⟩
  case round =>
    rename_i v _
    obtain ⟨k, hk, rfl, hown, hb⟩ := hrel
    by_cases hlt : k < 10
    · have hix := index_ten S k hlt
      have HB := Lib.hid hb; clear hb
      have hsl := setUpto_len S k
      cases hs : S k
      · rw [hs] at hix
        have HS := Lib.hid (setUpto_no hs); clear hs
        have HO := Lib.hid hown; clear hown
        go_wp2_with fail
        go_roundw
        case rel => exact ⟨k + 1, by omega, by go_num, by rw [HS.out]; exact HO.out, HB.out⟩
        case measure => simp [intOf]; omega
      · rw [hs] at hix
        have HS := Lib.hid (setUpto_yes hs); clear hs
        go_wp2_with (at_builtin; refine wpList_append_own _ rfl _ _ 32 rfl w.heap.size 3 i0 (.int .i64 0) 1 8 Try.underlying32 hi hz0 hz1 hz2 rfl (by decide) _ _ _ rfl (hown.alloc _) ⟨wr.heap.size, 0, none⟩ 1 1 [.int .i64 k] rfl rfl (cell_one_new _ _ _) one_int (by unfold maxLen; omega) (by omega) (by have := HB.out.size; simp; omega) ?_; intro v' w1 hown' hgrow _)
        have hb1 := (HB.out.alloc HB.out.size _).grown hgrow (by have := HB.out.size; simp; omega) (fun k hk => (hown.lt k hk).1)
        have HO := Lib.hid hown'
        have HB1 := Lib.hid hb1
        clear hown hown' hgrow hb1
        go_wp2_with fail
        go_roundw
        case rel => exact ⟨k + 1, by omega, by go_num, by rw [HS.out, encN_snoc, List.length_append]; exact HO.out, HB1.out⟩
        case measure => simp [intOf]; omega
    · obtain rfl : k = 10 := by omega
      have HO := Lib.hid hown; clear hown
      go_wp2_with fail
      go_ret
      exact ⟨_, rfl, natSl_of_owns HO.out, hb⟩
end Go.Proofs.Ytmljmmnofhhheaa
