/- The walks of the specification's once, isOrder and apply. -/
import Derived.Test.YtccpjfppkahbmaaH0
import Derived.Deep.QuietTactic
import Derived.BigQuiet
import Derived.Deep.RegionHeld3
namespace Go.Proofs.Ytccpjfppkahbmaa
open Go.RowKit PK

theorem IntsIn.take {w : World} {a : Option Addr} {xs : List Int} (h : IntsIn w a xs) (n : Nat) : IntsIn w a (xs.take n) := fun k hk => by
  rw [List.length_take] at hk
  obtain ⟨b, off, rfl, hc⟩ := h k (by omega)
  refine ⟨b, off, rfl, ?_⟩
  rw [List.getD_eq_getElem?_getD, List.getElem?_take, if_pos (by omega), ← List.getD_eq_getElem?_getD]
  exact hc
def onceN (order : List Int) (n k : Nat) : Bool := (List.range k).all fun i => onceAt order n i
theorem onceN_succ (order : List Int) (n k : Nat) : onceN order n (k + 1) = (onceN order n k && onceAt order n k) := by
  unfold onceN
  rw [List.range_succ, List.all_append]
  simp
theorem onceN_bad {order : List Int} {n k m : Nat} (h : k < m) (hb : onceAt order n k = false) : onceN order n m = false := by
  unfold onceN
  rw [← Bool.not_eq_true, List.all_eq_true]
  intro h2
  have := h2 k (List.mem_range.2 h)
  rw [hb] at this
  cases this
set_option maxRecDepth 100000 in
set_option maxHeartbeats 2000000 in
theorem once_any (order : List Int) (oa : Option Addr) (ocap : Nat) (n : Nat) (w : World) (ho : IntsIn w oa order) (hoc : order.length ≤ ocap) (hn : n ≤ 100000) :
    Calls Try.prog 53 #[.slice oa order.length ocap, .int .i64 n] w fun e w' => e = .returned (.bool (onceB order n)) ∧ Below w.heap.size w w' := by
  have HO := Lib.hid ho
  clear ho
  by_cases hlen : order.length = n
  · have HRes : Hid (onceB order n = onceN order n n) := Lib.hid (by unfold onceB onceN; rw [decide_eq_true hlen, Bool.true_and])
    rw [HRes.out]
    clear HRes
    rw [hlen] at hoc ⊢
    have HLen := Lib.hid hlen
    clear hlen
    go_enter Try.func53, Try.ntmps53
    go_wp2_with fail
    go_loopw [5] (fun i wr => ∃ k : Nat, k ≤ n ∧ i = .int .i64 k ∧ onceN order n k = true ∧ Below w.heap.size w wr) (fun i _ => n - (intOf i).toNat)
    case atStart => exact ⟨0, Nat.zero_le _, rfl, rfl, Below.refl _ _⟩
    case round =>
      obtain ⟨k, hk, rfl, hgood, hb⟩ := hrel
      have HGood := Lib.hid hgood; have HB := Lib.hid hb
      by_cases hlt : k < n
      · have hki : (k : Int) < (n : Int) := by omega
        have hk0 : (0 : Int) ≤ (k : Int) := by omega
        have hkc : k ≤ ocap := by omega
        obtain ⟨b, off, rfl, hc⟩ := HO.out.below hb k (by rw [HLen.out]; exact hlt)
        have HTk := Lib.hid (IntsIn.take HO.out k)
        have HSucc := Lib.hid (onceN_succ order n k)
        have HBad := Lib.hid (fun h => @onceN_bad order n k n hlt h)
        have HAt : Hid (onceAt order n k = !(decide (order.getD k 0 < 0) || (decide ((n : Int) ≤ order.getD k 0) || (order.take k).contains (order.getD k 0)))) := Lib.hid rfl
        have htl : (order.take k).length = k := by rw [List.length_take, HLen.out]; omega
        have HHas := Lib.hid (fun (u : World) (h : IntsIn u (some ⟨b, off, none⟩) (order.take k)) => has_any (order.take k) (some ⟨b, off, none⟩) ocap (order.getD k 0) u h (by rw [htl]; omega))
        rw [htl] at HHas
        clear hgood hb htl
        generalize (order.take k).contains (order.getD k 0) = ct at *
        generalize order.getD k 0 = x at *
        generalize onceAt order n k = oat at *
        by_cases h0 : x < 0
        · have hbad := HBad.out (by rw [HAt.out, decide_eq_true h0]; rfl)
          have h0b : decide (x < 0) = true := decide_eq_true h0
          go_wp2_with fail
          go_quiet (fail)
          go_wp2_with fail
          go_ret
          exact ⟨ret_bool hbad.symm, HB.out.trans (below_drewN (Below.refl _ _) _)⟩
        · have h0b : decide (x < 0) = false := decide_eq_false h0
          by_cases h1 : (n : Int) ≤ x
          · have hbad := HBad.out (by rw [HAt.out, h0b, decide_eq_true h1]; rfl)
            have h1b : decide ((n : Int) ≤ x) = true := decide_eq_true h1
            go_wp2_with fail
            go_quiet (fail)
            go_wp2_with fail
            go_ret
            exact ⟨ret_bool hbad.symm, HB.out.trans (below_drewN (Below.refl _ _) _)⟩
          · have h1b : decide ((n : Int) ≤ x) = false := decide_eq_false h1
            have HTw := Lib.hid (HTk.out.below HB.out)
            have HC := Lib.hid (HHas.out wr.drew (fun j hj => HTw.out j hj))
            clear HHas HTk HTw
            go_wp2_with fail
            go_region_held3 (fun w' => w'.cell? ⟨b, off + k, none⟩ = some (.int .i64 x))
              (first | exact hc)
              (first | (go_at_call 90; refine HC.out.mono ?_; rintro e w5 ⟨rfl, rfl⟩))
            cases ct
            · go_wp2_with fail
              go_roundw
              case rel => exact ⟨k + 1, by omega, by go_num, by rw [HSucc.out, HGood.out, HAt.out, h0b, h1b]; rfl, below_drew1 HB.out⟩
              case measure => simp [intOf]; omega
            · have hbad := HBad.out (by rw [HAt.out, h0b, h1b]; rfl)
              go_wp2_with fail
              go_ret
              exact ⟨ret_bool hbad.symm, below_drew1 HB.out⟩
      · obtain rfl : k = n := by omega
        clear hgood hb
        go_wp2_with fail
        go_ret
        exact ⟨ret_bool HGood.out.symm, HB.out⟩
  · have HRes : Hid (onceB order n = false) := Lib.hid (by unfold onceB; rw [decide_eq_false hlen, Bool.false_and])
    rw [HRes.out]
    have hb : ((order.length : Int) != (n : Int)) = true := by rw [bne_iff_ne]; omega
    clear HRes HO hlen
    generalize order.length = on at *
    go_enter Try.func53, Try.ntmps53
    go_wp2_with fail
    go_ret
    exact ⟨rfl, Below.refl _ _⟩
end Go.Proofs.Ytccpjfppkahbmaa
