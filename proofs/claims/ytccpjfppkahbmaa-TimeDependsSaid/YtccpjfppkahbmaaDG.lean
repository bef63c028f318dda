/- The walk of the specification's Depends. -/
import Derived.Test.YtccpjfppkahbmaaD3
import Derived.Test.YtccpjfppkahbmaaKH
namespace Go.Proofs.Ytccpjfppkahbmaa
open Go.RowKit PK

/-- The pairs with i in front, and a second one below m. -/
def pairN (l : List Cd) (i m : Nat) : StrL := ((List.range m).filter fun j => decide (i < j) && depB (atC l i) (atC l j)).map fun j : Nat => ((i : Int), (j : Int))
theorem pairN_succ (l : List Cd) (i m : Nat) (h : i < m) : pairN l i (m + 1) = if depB (atC l i) (atC l m) = true then pairN l i m ++ [((i : Int), (m : Int))] else pairN l i m := by
  unfold pairN
  rw [List.range_succ, List.filter_append, List.map_append]
  by_cases hd : depB (atC l i) (atC l m) = true
  · simp [hd, h]
  · simp [hd]
theorem pairN_start (l : List Cd) (i : Nat) : pairN l i (i + 1) = [] := by
  unfold pairN
  rw [List.map_eq_nil_iff, List.filter_eq_nil_iff]
  intro j hj
  have := List.mem_range.1 hj
  simp; omega
theorem pairN_len (l : List Cd) (i m : Nat) : (pairN l i m).length ≤ m := by
  unfold pairN
  rw [List.length_map]
  exact Nat.le_trans (List.length_filter_le _ _) (by simp)
def depN (l : List Cd) (k : Nat) : StrL := (List.range k).flatMap fun i => pairN l i l.length
theorem depN_succ (l : List Cd) (k : Nat) : depN l (k + 1) = depN l k ++ pairN l k l.length := by
  unfold depN
  rw [List.range_succ, List.flatMap_append]
  simp
theorem depN_len (l : List Cd) : ∀ k, (depN l k).length ≤ k * l.length
  | 0 => by simp [depN]
  | k + 1 => by
    rw [depN_succ, List.length_append, Nat.succ_mul]
    have := depN_len l k
    have := pairN_len l k l.length
    omega
def PairPost (ps : StrL) (E : Int) (w : World) (e : Ending) (w' : World) : Prop := (∃ a cap, e = .returned (.tuple #[.slice a ps.length cap, .int .i64 E]) ∧ StrIn w' a ps) ∧ Below w.heap.size w w'
def depL (l : List Cd) : StrL := if tErr l = 0 then depN l l.length else []
theorem pair_bad (l : List Cd) (w w' : World) (h : tErr l ≠ 0) (hb : Below w.heap.size w w') : PairPost (depL l) (tErr l) w (.returned (.tuple #[.slice none 0 0, .int .i64 (tErr l)])) w' := by
  have e : depL l = [] := if_neg h
  rw [e]
  exact ⟨⟨none, 0, rfl, fun _ hk => absurd hk (Nat.not_lt_zero _)⟩, hb⟩
set_option maxRecDepth 100000 in
set_option maxHeartbeats 4000000 in
theorem rDepends_all (l : List Cd) (a : Option Addr) (cap : Nat) (w : World) (hin : CdsIn w a l) (hl : l.length ≤ 1099511627776) :
    Calls Try.prog 37 #[.slice a l.length cap] w (PairPost (depL l) (tErr l) w) := by
  have HI := Lib.hid hin
  have HV := Lib.hid (rValidate_any l a cap w hin hl)
  have HBad := Lib.hid (pair_bad l w)
  clear hin
  by_cases hz : tErr l = 0
  · obtain ⟨h40, hok⟩ := tErr_zero hz
    have HOk := Lib.hid hok
    have HRes : Hid (depL l = depN l l.length) := Lib.hid (if_pos hz)
    rw [HRes.out]
    rw [hz] at HV ⊢
    clear hz hok HBad hl
    go_enter Try.func37, Try.ntmps37
    go_wp2_with fail
    refine HV.out.mono ?_; rintro e w2 ⟨rfl, hb2⟩
    have HB2 := Lib.hid hb2
    clear hb2 HV
    go_wp2_with fail
    obtain ⟨i0, hi, ip0, ip1, ip2⟩ := info_parts Try.infoPair
    go_loopw [5, 6] (fun v i wr => ∃ k : Nat, k ≤ l.length ∧ i = .int .i64 k ∧ wr.ownsRow w.heap.size 87 2 v (depN l k).length (encH (depN l k)) ∧ Below w.heap.size w wr) (fun _ i _ => l.length - (intOf i).toNat)
    case atStart => exact ⟨0, Nat.zero_le _, rfl, owns_nil _ _ _ _, HB2.out⟩
    case round =>
      obtain ⟨k, hk, rfl, ho, hb⟩ := hrel
      by_cases hlt : k < l.length
      · have HO := Lib.hid ho; have HB := Lib.hid hb
        have hki : (k : Int) < (l.length : Int) := by omega
        have hk0 : (0 : Int) ≤ (k : Int) := by omega
        have hdl := depN_len l k
        have hdl2 : (depN l k).length ≤ 1600 := Nat.le_trans hdl (Nat.le_trans (Nat.mul_le_mul hk (Nat.le_refl _)) (Nat.mul_le_mul h40 h40))
        have HDs := Lib.hid (depN_succ l k)
        clear ho hb hdl
        go_wp2_with fail
        generalize depN l k = D at *
        go_loopw [5, 7] (fun v j wr => ∃ m : Nat, k + 1 ≤ m ∧ m ≤ l.length ∧ j = .int .i64 m ∧ wr.ownsRow w.heap.size 87 2 v (D ++ pairN l k m).length (encH (D ++ pairN l k m)) ∧ Below w.heap.size w wr) (fun _ j _ => l.length - (intOf j).toNat)
        case atStart => exact ⟨k + 1, Nat.le_refl _, hlt, by go_num, by rw [pairN_start, List.append_nil]; exact HO.out, HB.out⟩
        case round =>
          obtain ⟨m, hkm, hm, rfl, ho, hb⟩ := hrel
          by_cases hml : m < l.length
          · have hmi : (m : Int) < (l.length : Int) := by omega
            have hm0 : (0 : Int) ≤ (m : Int) := by omega
            obtain ⟨bb, off, rfl, hcx⟩ := HI.out.below hb k hlt
            obtain ⟨bb', off', e0, hcy⟩ := HI.out.below hb m hml
            simp only [Option.some.injEq, Addr.mk.injEq, and_true] at e0
            obtain ⟨e1, e2⟩ := e0
            subst e1; subst e2
            have HD := Lib.hid (fun u => rDepends_any (atC l k) (atC l m) (HOk.out k hlt) (HOk.out m hml) u)
            have HP : Hid (D ++ pairN l k (m + 1) = if depB (atC l k) (atC l m) = true then (D ++ pairN l k m) ++ [((k : Int), (m : Int))] else D ++ pairN l k m) := Lib.hid (by
              rw [pairN_succ l k m (by omega)]
              split
              · rw [List.append_assoc]
              · rfl)
            have hel : (D ++ pairN l k m).length ≤ 2000 := by
              have := pairN_len l k m
              rw [List.length_append]; omega
            have HO2 := Lib.hid ho; have HB2 := Lib.hid hb
            clear ho hb
            generalize hE1 : D ++ pairN l k (m + 1) = E1 at *
            have HE1 := Lib.hid hE1; clear hE1
            generalize D ++ pairN l k m = E at *
            generalize depB (atC l k) (atC l m) = b at *
            generalize atC l k = x at *
            generalize atC l m = y at *
            obtain ⟨x0, x1, x2, x3, x4, x5⟩ := x
            obtain ⟨y0, y1, y2, y3, y4, y5⟩ := y
            obtain ⟨c0, c1, c2, c3, c4, c5⟩ := hcx
            obtain ⟨d0, d1, d2, d3, d4, d5⟩ := hcy
            simp only at c0 c1 c2 c3 c4 c5 d0 d1 d2 d3 d4 d5
            have HD : Hid (∀ u : World, Calls Try.prog 70 #[.agg #[.int .i64 x0, .int .i64 x1, .int .i64 x2, .int .i64 x3, .int .u32 x4, .int .i64 x5], .agg #[.int .i64 y0, .int .i64 y1, .int .i64 y2, .int .i64 y3, .int .u32 y4, .int .i64 y5]] u fun e w' => e = .returned (.bool b) ∧ Below u.heap.size u w') := HD
            go_upto_region 11 with (fail)
            go_region_held3 (fun w' => w'.cell? ⟨bb, off + k * 6, none⟩ = some (.int .i64 x0) ∧ w'.cell? ⟨bb, off + k * 6 + 1, none⟩ = some (.int .i64 x1) ∧ w'.cell? ⟨bb, off + k * 6 + 2, none⟩ = some (.int .i64 x2) ∧ w'.cell? ⟨bb, off + k * 6 + 3, none⟩ = some (.int .i64 x3) ∧ w'.cell? ⟨bb, off + k * 6 + 4, none⟩ = some (.int .u32 x4) ∧ w'.cell? ⟨bb, off + k * 6 + 5, none⟩ = some (.int .i64 x5) ∧ w'.cell? ⟨bb, off + m * 6, none⟩ = some (.int .i64 y0) ∧ w'.cell? ⟨bb, off + m * 6 + 1, none⟩ = some (.int .i64 y1) ∧ w'.cell? ⟨bb, off + m * 6 + 2, none⟩ = some (.int .i64 y2) ∧ w'.cell? ⟨bb, off + m * 6 + 3, none⟩ = some (.int .i64 y3) ∧ w'.cell? ⟨bb, off + m * 6 + 4, none⟩ = some (.int .u32 y4) ∧ w'.cell? ⟨bb, off + m * 6 + 5, none⟩ = some (.int .i64 y5))
              (first | exact ⟨c0, c1, c2, c3, c4, c5, d0, d1, d2, d3, d4, d5⟩ | exact ⟨keep c0 (by assumption), keep c1 (by assumption), keep c2 (by assumption), keep c3 (by assumption), keep c4 (by assumption), keep c5 (by assumption), keep d0 (by assumption), keep d1 (by assumption), keep d2 (by assumption), keep d3 (by assumption), keep d4 (by assumption), keep d5 (by assumption)⟩)
              (first | (go_at_call 70; refine (HD.out _).mono ?_; rintro e w5 ⟨rfl, hb5⟩; have hb5 := (by first | exact below_of_drew hb5 | exact hb5)))
            have HB5 := Lib.hid (HB2.out.trans (hb5.mono HB2.out.size))
            have HO5 := Lib.hid (owns_below HO2.out hb5)
            clear hb5 c0 c1 c2 c3 c4 c5 d0 d1 d2 d3 d4 d5 HB2 HO2
            cases b
            · go_wp2_with fail
              go_roundw
              case rel => exact ⟨m + 1, by omega, by omega, by go_num, by rw [HE1.out, HP.out, if_neg (by decide)]; exact HO5.out, HB5.out⟩
              case measure => simp [intOf]; omega
            · have HN6 := Lib.hid (cell_two_at w5 (.int .i64 (k : Int)) (.int .i64 (m : Int)) 87)
              have HO6 := Lib.hid (HO5.out.alloc (.cells #[.int .i64 (k : Int), .int .i64 (m : Int)] 87))
              have HB6 := Lib.hid (HB5.out.alloc HB5.out.size (.cells #[.int .i64 (k : Int), .int .i64 (m : Int)] 87))
              have HG5 := Lib.hid (fun g hg => owns_block HO5.out (g := g) hg)
              have HS63 : Hid (List.length E + 1 ≤ maxLen) := Lib.hid (by unfold maxLen; omega)
              have HSb : Hid ((List.length E + 1) * 16 ≤ 140737488355328) := Lib.hid (by omega)
              go_wp2_with (first | (at_builtin; refine wpList_append_own_at _ rfl _ _ 57 rfl w.heap.size 87 i0 (.agg #[.int .i64 0, .int .i64 0]) 2 16 Try.underlying57 hi ip0 ip1 ip2 rfl (by decide) _ _ _ rfl HO6.out ⟨w5.heap.size, 0, none⟩ 1 1 [.int .i64 (k : Int), .int .i64 (m : Int)] rfl rfl HN6.out (one_two _ _) HS63.out HSb.out HB6.out.size ?_; intro v9 w9 hown9 hgrow9 _ hat9; have HB9 := Lib.hid (HB6.out.grown hgrow9 HB6.out.size (fun g hg => (HG5.out g hg).1)); have HO9 := Lib.hid hown9; clear hown9 hgrow9 hat9))
              go_roundw
              case rel => exact ⟨m + 1, by omega, by omega, by go_num, by rw [HE1.out, HP.out, if_pos rfl, List.length_append, encH_snoc]; exact HO9.out, HB9.out⟩
              case measure => simp [intOf]; omega
          · obtain rfl : m = l.length := by omega
            have HO2 := Lib.hid ho; have HB2 := Lib.hid hb
            clear ho hb
            go_wp2_with fail
            go_roundw
            case rel => exact ⟨k + 1, by omega, by go_num, by rw [HDs.out]; exact HO2.out, HB2.out⟩
            case measure => simp [intOf]; omega
      · obtain rfl : k = l.length := by omega
        have HO := Lib.hid ho; have HB := Lib.hid hb
        clear ho hb
        go_wp2_with fail
        go_ret2
        obtain ⟨ra, rc, rfl, hin⟩ := strIn_of_owns HO.out
        exact ⟨⟨ra, rc, rfl, hin⟩, HB.out⟩
  · generalize tErr l = te at *
    clear HI hl
    go_enter Try.func37, Try.ntmps37
    go_wp2_with fail
    refine HV.out.mono ?_; rintro e w2 ⟨rfl, hb2⟩
    go_wp2_with fail
    go_ret2
    exact HBad.out _ hz hb2
end Go.Proofs.Ytccpjfppkahbmaa
