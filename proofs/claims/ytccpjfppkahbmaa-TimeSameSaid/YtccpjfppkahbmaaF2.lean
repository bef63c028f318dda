/- The walks of time.isOrder, time.apply, IsOrder and Apply. -/
import Derived.Test.YtccpjfppkahbmaaF1
namespace Go.Proofs.Ytccpjfppkahbmaa
open Go.RowKit PK

theorem index_any (xs : List Int) (a : Option Addr) (cap : Nat) (x : Int) (w : World) (hin : IntsIn w a xs) (hl : xs.length ≤ 100000) :
    Calls Try.prog 80 #[.slice a xs.length cap, .int .i64 x] w fun e w' => e = .returned (.int .i64 (Lib.idxOf xs x)) ∧ w = w' := by
  by_cases h0 : xs = []
  · subst h0
    exact (Try.slices_Index_int_empty a cap x w).mono fun _ _ h => ⟨h.1, h.2.symm⟩
  · obtain ⟨b, off, rfl, _⟩ := hin 0 (List.length_pos_iff.2 h0)
    have := Try.slices_Index_int b off xs.length cap xs x w (Nat.le_refl _) (by omega) (fun j hj => by
      obtain ⟨b', o', e, hc⟩ := hin j hj
      simp only [Option.some.injEq, Addr.mk.injEq, and_true] at e
      obtain ⟨rfl, rfl⟩ := e
      exact hc)
    rw [List.take_length] at this
    exact this.mono fun _ _ h => ⟨h.1, h.2.symm⟩
/-- Whether all of the first k of the table stand behind those on which they depend. -/
def behindRow (order : List Int) (k : Nat) (row : List Int) : Bool := row.all fun i => decide (Lib.idxOf order i ≤ Lib.idxOf order (k : Int))
def behindN (l : List Cd) (order : List Int) (k : Nat) : Bool := (List.range k).all fun k => behindRow order k (tabN l k k)
theorem behindN_succ (l : List Cd) (order : List Int) (k : Nat) : behindN l order (k + 1) = (behindN l order k && behindRow order k (tabN l k k)) := by
  unfold behindN
  rw [List.range_succ, List.all_append]
  simp
theorem behindRow_take {order : List Int} {k : Nat} {row : List Int} {m : Nat} (h : m < row.length) : behindRow order k (row.take (m + 1)) = (behindRow order k (row.take m) && decide (Lib.idxOf order (row.getD m 0) ≤ Lib.idxOf order (k : Int))) := by
  unfold behindRow
  rw [takeI_succ h, List.all_append]
  simp
theorem behindRow_bad {order : List Int} {k : Nat} {row : List Int} {m : Nat} (h : m < row.length) (hb : ¬ Lib.idxOf order (row.getD m 0) ≤ Lib.idxOf order (k : Int)) : behindRow order k row = false := by
  unfold behindRow
  rw [← Bool.not_eq_true, List.all_eq_true]
  intro h2
  have := h2 (row.getD m 0) (by rw [List.getD_eq_getElem?_getD, List.getElem?_eq_getElem h]; exact List.getElem_mem h)
  exact hb (by simpa using this)
theorem behindN_bad {l : List Cd} {order : List Int} {k n : Nat} (h : k < n) (hb : behindRow order k (tabN l k k) = false) : behindN l order n = false := by
  unfold behindN
  rw [← Bool.not_eq_true, List.all_eq_true]
  intro h2
  have := h2 k (List.mem_range.2 h)
  rw [hb] at this
  cases this
set_option maxRecDepth 100000 in
set_option maxHeartbeats 4000000 in
theorem isOrder_any (l : List Cd) (a : Option Addr) (cap : Nat) (order : List Int) (oa : Option Addr) (ocap : Nat) (w : World) (hin : CdsIn w a l) (hlc : l.length ≤ cap) (hl : l.length ≤ 40) (hok : ∀ k, k < l.length → okC (atC l k) = true) (ho : IntsIn w oa order) (hol : order.length ≤ 100000) :
    Calls Try.prog 50 #[.slice a l.length cap, .slice oa order.length ocap] w fun e w' => e = .returned (.bool (behindN l order l.length)) ∧ Below w.heap.size w w' := by
  have HTb := Lib.hid (table_any l a cap w hin hlc hl hok)
  have HIx := Lib.hid (fun (u : World) (hb : Below w.heap.size w u) (x : Int) => index_any order oa ocap x u (ho.below hb) hol)
  have htl : (tabL l).length = l.length := by simp [tabL]
  have HGet : Hid (∀ k, k < l.length → (tabL l).getD k [] = tabN l k k) := Lib.hid (fun k hk => by simp [tabL, List.getD_eq_getElem?_getD, hk])
  have HTl := Lib.hid htl
  clear hin hok ho hol hlc htl
  generalize order.length = on at *
  go_enter Try.func50, Try.ntmps50
  go_wp2_with fail
  refine HTb.out.mono ?_; rintro e w3 ⟨⟨v, rfl, ta, tc, rfl, hrow⟩, hb3⟩
  have HRow := Lib.hid hrow
  have HB3 := Lib.hid hb3
  clear hb3 hrow HTb
  rw [HTl.out]
  go_wp2_with fail
  go_loopw [12] (fun i wr => ∃ k : Nat, k ≤ l.length ∧ i = .int .i64 k ∧ behindN l order k = true ∧ w3 = wr) (fun i _ => l.length - (intOf i).toNat)
  case atStart => exact ⟨0, Nat.zero_le _, rfl, rfl, by trivial⟩
  case round =>
    obtain ⟨k, hk, rfl, hgood, rfl⟩ := hrel
    have HGood := Lib.hid hgood
    clear hgood
    by_cases hlt : k < l.length
    · have hki : (k : Int) < (l.length : Int) := by omega
      obtain ⟨tb, to, ra, rc, rfl, hcr, hri⟩ := HRow.out k (by rw [HTl.out]; exact hlt)
      rw [HGet.out k hlt] at hcr hri
      have HRi := Lib.hid hri
      have HBs := Lib.hid (behindN_succ l order k)
      have HBad := Lib.hid (@behindN_bad l order k l.length hlt)
      have htn := tabN_len l k k
      clear hri
      generalize tabN l k k = T at *
      generalize hTn : T.length = tn at *
      have HTn := Lib.hid hTn; clear hTn
      go_wp2_with fail
      go_loopw [19] (fun j wr => ∃ m : Nat, m ≤ tn ∧ j = .int .i64 m ∧ behindRow order k (T.take m) = true ∧ w3 = wr) (fun j _ => tn - (intOf j).toNat)
      case atStart => exact ⟨0, Nat.zero_le _, rfl, rfl, by trivial⟩
      case round =>
        obtain ⟨m, hm, rfl, hg2, rfl⟩ := hrel
        have HG2 := Lib.hid hg2
        clear hg2
        by_cases hml : m < tn
        · have hmi : (m : Int) < (tn : Int) := by omega
          have hTm : m < T.length := by rw [HTn.out]; exact hml
          obtain ⟨rb, ro, rfl, hcx⟩ := HRi.out m hTm
          have HTk := Lib.hid (behindRow_take (order := order) (k := k) hTm)
          have HTb := Lib.hid (behindRow_bad (order := order) (k := k) hTm)
          clear hTm
          generalize T.getD m 0 = x at *
          have HX := Lib.hid (HIx.out _ HB3.out x)
          have HKx := Lib.hid (HIx.out _ HB3.out (k : Int))
          generalize Lib.idxOf order x = ix at *
          generalize Lib.idxOf order (k : Int) = ik at *
          go_wp2_with fail
          refine HX.out.mono ?_; rintro e v5 ⟨rfl, rfl⟩
          go_wp2_with fail
          refine HKx.out.mono ?_; rintro e v5 ⟨rfl, rfl⟩
          by_cases hgt : ik < ix
          · have hbad := HBad.out (HTb.out (by omega))
            go_wp2_with fail
            go_ret
            exact ⟨ret_bool hbad.symm, HB3.out⟩
          · go_wp2_with fail
            go_roundw
            case rel => exact ⟨m + 1, by omega, by go_num, by rw [HTk.out, HG2.out, decide_eq_true (by omega)]; rfl, by trivial⟩
            case measure => simp [intOf]; omega
        · obtain rfl : m = tn := by omega
          go_wp2_with fail
          go_roundw
          case rel => exact ⟨k + 1, by omega, by go_num, by rw [HBs.out, HGood.out]; have := HG2.out; rwa [List.take_of_length_le (by rw [HTn.out]; exact Nat.le_refl _)] at this, by trivial⟩
          case measure => simp [intOf]; omega
    · obtain rfl : k = l.length := by omega
      go_wp2_with fail
      go_ret
      exact ⟨ret_bool HGood.out.symm, HB3.out⟩
/-- The instructions in an order. -/
def applyL (l : List Cd) (order : List Int) : List Cd := order.map fun k => atC l k.toNat
theorem applyL_len (l : List Cd) (order : List Int) : (applyL l order).length = order.length := by simp [applyL]
theorem applyL_take {l : List Cd} {order : List Int} {m : Nat} (h : m < order.length) : applyL l (order.take (m + 1)) = applyL l (order.take m) ++ [atC l (order.getD m 0).toNat] := by
  unfold applyL
  rw [takeI_succ h, List.map_append]
  rfl
set_option maxRecDepth 100000 in
set_option maxHeartbeats 4000000 in
theorem apply_any (l : List Cd) (a : Option Addr) (cap : Nat) (order : List Int) (oa : Option Addr) (ocap : Nat) (w : World) (hin : CdsIn w a l) (ho : IntsIn w oa order) (hol : order.length ≤ 100000) (hr : ∀ k, k < order.length → 0 ≤ order.getD k 0 ∧ order.getD k 0 < (l.length : Int)) :
    Calls Try.prog 51 #[.slice a l.length cap, .slice oa order.length ocap] w fun e w' => (∃ v, e = .returned v ∧ w'.ownsRow w.heap.size 42 6 v (applyL l order).length (encC (applyL l order))) ∧ Below w.heap.size w w' := by
  have HI := Lib.hid hin; have HO := Lib.hid ho
  have HR := Lib.hid hr
  have HAl := Lib.hid (applyL_len l order)
  clear hin ho hr
  obtain ⟨i0, hi, ip0, ip1, ip2⟩ := info_parts Try.infoCode
  generalize hon : order.length = on at *
  have HOn := Lib.hid hon; clear hon
  go_enter Try.func51, Try.ntmps51
  go_wp2_with fail
  go_loopw [5, 10] (fun v i wr => ∃ k : Nat, k ≤ on ∧ i = .int .i64 k ∧ wr.ownsRow w.heap.size 42 6 v (applyL l (order.take k)).length (encC (applyL l (order.take k))) ∧ Below w.heap.size w wr) (fun _ i _ => on - (intOf i).toNat)
  case atStart => exact ⟨0, Nat.zero_le _, rfl, owns_nil _ _ _ _, Below.refl _ _⟩
  case round =>
    obtain ⟨k, hk, rfl, ho, hb⟩ := hrel
    by_cases hlt : k < on
    · have hki : (k : Int) < (on : Int) := by omega
      have hko : k < order.length := by rw [HOn.out]; exact hlt
      obtain ⟨ob, oo, rfl, hco⟩ := HO.out.below hb k hko
      have hrk := HR.out k hlt
      have HTk := Lib.hid (applyL_take (l := l) hko)
      have hel : (applyL l (order.take k)).length ≤ 100000 := by rw [applyL_len, List.length_take]; omega
      clear hko
      generalize hE1 : applyL l (order.take (k + 1)) = E1 at *
      have HE1 := Lib.hid hE1; clear hE1
      generalize applyL l (order.take k) = E at *
      generalize order.getD k 0 = z at *
      obtain ⟨m, rfl⟩ := Int.eq_ofNat_of_zero_le hrk.1
      have hml : m < l.length := by omega
      obtain ⟨bb, off, rfl, hc⟩ := HI.out.below hb m hml
      rw [Int.toNat_natCast] at HTk
      generalize atC l m = x at *
      obtain ⟨x0, x1, x2, x3, x4, x5⟩ := x
      obtain ⟨c0, c1, c2, c3, c4, c5⟩ := hc
      simp only at c0 c1 c2 c3 c4 c5
      have HO2 := Lib.hid ho; have HB2 := Lib.hid hb
      clear ho hb
      have HN6 := Lib.hid (cell_six_at wr (.int .i64 x0) (.int .i64 x1) (.int .i64 x2) (.int .i64 x3) (.int .u32 x4) (.int .i64 x5) 42)
      have HO6 := Lib.hid (HO2.out.alloc (.cells #[.int .i64 x0, .int .i64 x1, .int .i64 x2, .int .i64 x3, .int .u32 x4, .int .i64 x5] 42))
      have HB6 := Lib.hid (HB2.out.alloc HB2.out.size (.cells #[.int .i64 x0, .int .i64 x1, .int .i64 x2, .int .i64 x3, .int .u32 x4, .int .i64 x5] 42))
      have HG5 := Lib.hid (fun g hg => owns_block HO2.out (g := g) hg)
      have HS63 : Hid (E.length + 1 ≤ maxLen) := Lib.hid (by unfold maxLen; omega)
      have HSb : Hid ((E.length + 1) * 48 ≤ 140737488355328) := Lib.hid (by omega)
      go_wp2_with (first | (at_builtin; refine wpList_append_own_at _ rfl _ _ 22 rfl w.heap.size 42 i0 (.agg #[.int .i64 0, .int .i64 0, .int .i64 0, .int .i64 0, .int .u32 0, .int .i64 0]) 6 48 Try.underlying22 hi ip0 ip1 ip2 rfl (by decide) _ _ _ rfl HO6.out ⟨wr.heap.size, 0, none⟩ 1 1 [.int .i64 x0, .int .i64 x1, .int .i64 x2, .int .i64 x3, .int .u32 x4, .int .i64 x5] rfl rfl HN6.out (one_six _ _ _ _ _ _) HS63.out HSb.out HB6.out.size ?_; intro v9 w9 hown9 hgrow9 _ hat9; have HB9 := Lib.hid (HB6.out.grown hgrow9 HB6.out.size (fun g hg => (HG5.out g hg).1)); have HO9 := Lib.hid hown9; clear hown9 hgrow9 hat9))
      go_roundw
      case rel => exact ⟨k + 1, by omega, by go_num, by rw [HE1.out, HTk.out, List.length_append, encC_snoc]; exact HO9.out, HB9.out⟩
      case measure => simp [intOf]; omega
    · obtain rfl : k = on := by omega
      rw [List.take_of_length_le (by rw [HOn.out]; exact Nat.le_refl _)] at ho
      have HO2 := Lib.hid ho; have HB2 := Lib.hid hb
      clear ho hb
      go_wp2_with fail
      go_ret
      exact ⟨⟨_, rfl, HO2.out⟩, HB2.out⟩
end Go.Proofs.Ytccpjfppkahbmaa
