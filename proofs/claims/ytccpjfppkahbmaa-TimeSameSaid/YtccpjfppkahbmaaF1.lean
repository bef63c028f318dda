/- The walks of time.ordered, time.isOrder, time.apply. -/
import Derived.Test.YtccpjfppkahbmaaD3
import Derived.Test.YtccpjfppkahbmaaKS
namespace Go.Proofs.Ytccpjfppkahbmaa
open Go.RowKit PK

def iota (n : Nat) : List Int := (List.range n).map fun i : Nat => (i : Int)
theorem iota_len (n : Nat) : (iota n).length = n := by simp [iota]
theorem iota_get {n k : Nat} (h : k < n) : (iota n).getD k 0 = (k : Int) := by simp [iota, List.getD_eq_getElem?_getD, h]
theorem ext_getD {a b : List Int} (hl : a.length = b.length) (h : ∀ k, k < a.length → a.getD k 0 = b.getD k 0) : a = b := by
  apply List.ext_getElem hl
  intro i h1 h2
  have := h i h1
  rwa [List.getD_eq_getElem?_getD, List.getD_eq_getElem?_getD, List.getElem?_eq_getElem h1, List.getElem?_eq_getElem h2] at this
/-- An order is a list of the numbers below n, each once. -/
def permO (n : Nat) (order : List Int) : Prop := order.length = n ∧ sortI order = iota n
instance (n : Nat) (order : List Int) : Decidable (permO n order) := by unfold permO; exact inferInstance
def ordE (l : List Cd) (order : List Int) : Int := if tErr l = 0 then if permO l.length order then 0 else 1 else tErr l
theorem ordE_bad {l : List Cd} {order : List Int} (h : tErr l ≠ 0) : ordE l order = tErr l := if_neg h
theorem ordE_no {l : List Cd} {order : List Int} (h : tErr l = 0) (hp : ¬ permO l.length order) : ordE l order = 1 := by unfold ordE; rw [if_pos h, if_neg hp]
theorem ordE_yes {l : List Cd} {order : List Int} (h : tErr l = 0) (hp : permO l.length order) : ordE l order = 0 := by unfold ordE; rw [if_pos h, if_pos hp]
set_option maxHeartbeats 2000000 in
theorem ordered_any (l : List Cd) (a : Option Addr) (cap : Nat) (order : List Int) (oa : Option Addr) (ocap : Nat) (w : World) (hin : CdsIn w a l) (hl : l.length ≤ 1099511627776) (ho : IntsIn w oa order) (hol : order.length ≤ 100000) :
    Calls Try.prog 49 #[.slice a l.length cap, .slice oa order.length ocap] w fun e w' => e = .returned (.int .i64 (ordE l order)) ∧ Below w.heap.size w w' := by
  have HV := Lib.hid (tValidate_any l a cap w hin hl)
  have HOi := Lib.hid ho
  clear hin ho
  by_cases hz : tErr l = 0
  · have HNo : Hid (¬ permO l.length order → ordE l order = 1) := Lib.hid (ordE_no hz)
    have HYes : Hid (permO l.length order → ordE l order = 0) := Lib.hid (ordE_yes hz)
    rw [hz] at HV
    have hn40 := (tErr_zero hz).1
    clear hz
    have HP : Hid (permO l.length order ↔ order.length = l.length ∧ sortI order = iota l.length) := Lib.hid Iff.rfl
    generalize permO l.length order = PO at *
    generalize ordE l order = oe at *
    generalize l.length = n at *
    have HVa := Lib.hid (fun u : World => values_any oa order.length ocap u)
    go_enter Try.func49, Try.ntmps49
    go_wp2_with fail
    refine HV.out.mono ?_; rintro e w2 ⟨rfl, hb2⟩
    have HB2 := Lib.hid hb2
    clear hb2 HV
    go_wp2_with fail
    refine (HVa.out _).mono ?_; rintro e w3 ⟨rfl, rfl⟩
    have hal := (Below.refl w2.heap.size w2).alloc (Nat.le_refl _) (.cells #[.slice oa order.length ocap] 25)
    have HS := Lib.hid (sorted_any w2.heap.size oa ocap order hol (w2.alloc (.cells #[.slice oa order.length ocap] 25)) ((HOi.out.below HB2.out).below hal) (by simp [go_sem]))
    have HB3 := Lib.hid (HB2.out.trans (hal.mono HB2.out.size))
    clear hal HVa
    go_wp2_with fail
    generalize w2.alloc (.cells #[.slice oa order.length ocap] 25) = w3 at *
    refine HS.out.mono ?_; rintro e w4 ⟨v, rfl, hv, hb4⟩
    obtain ⟨va, vc, rfl, _, hin⟩ := ints_of_owns (xs := sortI order) (by rw [sortI_len]; exact hv)
    have HI := Lib.hid hin
    have HB4 := Lib.hid (HB3.out.trans (hb4.mono HB3.out.size))
    have HSl := Lib.hid (sortI_len order)
    clear hin hv hb4 HS HB3 HB2 HOi
    rw [HSl.out]
    by_cases hlen : order.length = n
    · have hne : ((order.length : Int) != (n : Int)) = false := by rw [hlen]; simp
      have hneq : (order.length : Int) = (n : Int) := by omega
      have HLen := Lib.hid hlen
      generalize sortI order = so at *
      generalize order.length = m at *
      subst hlen
      clear hne hneq
      go_wp2_with fail
      go_loopw [24] (fun i wr => ∃ k : Nat, k ≤ m ∧ i = .int .i64 k ∧ (∀ j, j < k → so.getD j 0 = (j : Int)) ∧ w4 = wr) (fun i _ => m - (intOf i).toNat)
      case atStart => exact ⟨0, Nat.zero_le _, rfl, fun j hj => absurd hj (Nat.not_lt_zero _), by trivial⟩
      case round =>
        obtain ⟨k, hk, rfl, hall, rfl⟩ := hrel
        have HAll := Lib.hid hall
        clear hall
        by_cases hlt : k < m
        · have hki : (k : Int) < (m : Int) := by omega
          obtain ⟨b, off, rfl, hc⟩ := HI.out k (by rw [HSl.out]; exact hlt)
          generalize hx : so.getD k 0 = x at *
          have HX := Lib.hid hx; clear hx
          by_cases hxk : (k : Int) = x
          · have hb : ((k : Int) != x) = false := by rw [hxk]; simp
            have HXk := Lib.hid hxk; clear hxk
            go_wp2_with fail
            go_roundw
            case rel => exact ⟨k + 1, by omega, by go_num, fun j hj => by
              by_cases e : j = k
              · subst e; rw [HX.out, HXk.out]
              · exact HAll.out j (by omega), by trivial⟩
            case measure => simp [intOf]; omega
          · have hb : ((k : Int) != x) = true := by rw [bne_iff_ne]; exact hxk
            have hno := HNo.out (fun hp => by
              have := (HP.out.1 hp).2
              have h2 := HX.out
              rw [this, iota_get hlt] at h2
              exact hxk h2)
            subst hno
            go_wp2_with fail
            go_ret
            exact ⟨rfl, HB4.out⟩
        · obtain rfl : k = m := by omega
          have hyes := HYes.out (HP.out.2 ⟨by trivial, ext_getD (by rw [HSl.out, iota_len]) (fun j hj => by
            rw [HSl.out] at hj
            rw [HAll.out j hj, iota_get hj])⟩)
          subst hyes
          go_wp2_with fail
          go_ret
          exact ⟨rfl, HB4.out⟩
    · have hno := HNo.out (fun hp => hlen (HP.out.1 hp).1)
      subst hno
      have hne : ((order.length : Int) != (n : Int)) = true := by rw [bne_iff_ne]; omega
      clear HNo HYes HP HI HSl
      generalize order.length = m at *
      go_wp2_with fail
      go_ret
      exact ⟨rfl, HB4.out⟩
  · rw [ordE_bad hz]
    generalize tErr l = te at *
    go_enter Try.func49, Try.ntmps49
    go_wp2_with fail
    refine HV.out.mono ?_; rintro e w2 ⟨rfl, hb2⟩
    go_wp2_with fail
    go_ret
    exact ⟨rfl, hb2⟩
end Go.Proofs.Ytccpjfppkahbmaa
