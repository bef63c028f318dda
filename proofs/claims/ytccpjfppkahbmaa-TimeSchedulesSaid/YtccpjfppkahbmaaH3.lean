/- The walks of the specification's IsOrder, Apply and Same; the law TimeOrders. -/
import Derived.Test.YtccpjfppkahbmaaH2
namespace Go.Proofs.Ytccpjfppkahbmaa
open Go.RowKit PK

set_option maxHeartbeats 2000000 in
theorem rIsOrder_all (l : List Cd) (a : Option Addr) (cap : Nat) (order : List Int) (oa : Option Addr) (ocap : Nat) (w : World) (hin : CdsIn w a l) (hl : l.length ≤ 1099511627776) (ho : IntsIn w oa order) (hoc : order.length ≤ ocap) (hol : order.length ≤ 100000) :
    Calls Try.prog 26 #[.slice a l.length cap, .slice oa order.length ocap] w (IsOrdPost l order w) := by
  have HV := Lib.hid (rValidate_any l a cap w hin hl)
  have HOn := Lib.hid (fun (u : World) (hb : Below w.heap.size w u) (h : l.length ≤ 100000) => once_any order oa ocap l.length u (ho.below hb) hoc h)
  have HIs := Lib.hid (fun (u : World) (hb : Below w.heap.size w u) h2 h3 => rIsOrder_any l a cap order oa ocap u (hin.below hb) h2 (ho.below hb) hol h3)
  have HBad := Lib.hid (isOrd_bad l order w)
  have HGood := Lib.hid (isOrd_good l order w)
  clear hin ho
  by_cases hz : tErr l = 0
  · obtain ⟨h1, h2⟩ := tErr_zero hz
    have HOn := Lib.hid (fun u hb => HOn.out u hb (by omega))
    rw [hz] at HV
    by_cases hp : permO l.length order
    · have hE := ordE_yes hz hp
      have hon : onceB order l.length = true := once_iff.2 hp
      rw [hon] at HOn
      have HIs := Lib.hid (fun u hb => HIs.out u hb h2 (fun k hk => permO_get hp hk))
      have HG := Lib.hid (fun w' => HGood.out w' hE)
      rw [behind_ord hp] at HG
      generalize ordOK l order order.length = ob at *
      clear h1 h2 hz HBad HGood hp hE hon
      go_enter Try.func26, Try.ntmps26
      go_wp2_with fail
      refine HV.out.mono ?_; rintro e w2 ⟨rfl, hb2⟩
      have HB2 := Lib.hid hb2
      clear hb2
      go_wp2_with fail
      refine (HOn.out _ HB2.out).mono ?_; rintro e w3 ⟨rfl, hb3⟩
      have HB3 := Lib.hid (HB2.out.trans (hb3.mono HB2.out.size))
      clear hb3
      go_wp2_with fail
      refine (HIs.out _ HB3.out).mono ?_; rintro e w4 ⟨rfl, hb4⟩
      have HB4 := Lib.hid (HB3.out.trans (hb4.mono HB3.out.size))
      clear hb4
      go_wp2_with fail
      go_ret2
      exact HG.out _ HB4.out
    · have hE := ordE_no hz hp
      have hon : onceB order l.length = false := by rw [← Bool.not_eq_true, once_iff]; exact hp
      rw [hon] at HOn
      have HB := Lib.hid (fun w' v hv => HBad.out w' v hv (by rw [hE]; decide))
      have HE := Lib.hid hE
      clear h1 h2 hz HBad HGood hp hon HIs hE
      go_enter Try.func26, Try.ntmps26
      go_wp2_with fail
      refine HV.out.mono ?_; rintro e w2 ⟨rfl, hb2⟩
      have HB2 := Lib.hid hb2
      clear hb2
      go_wp2_with fail
      refine (HOn.out _ HB2.out).mono ?_; rintro e w3 ⟨rfl, hb3⟩
      have HB3 := Lib.hid (HB2.out.trans (hb3.mono HB2.out.size))
      clear hb3
      go_wp2_with fail
      go_ret2
      exact HB.out _ _ HE.out.symm HB3.out
  · have hE := ordE_bad (order := order) hz
    have HB := Lib.hid (fun w' v hv => HBad.out w' v hv (by rw [hE]; exact hz))
    have HE := Lib.hid hE
    clear HIs HGood HBad HOn hE
    generalize tErr l = te at *
    go_enter Try.func26, Try.ntmps26
    go_wp2_with fail
    refine HV.out.mono ?_; rintro e w2 ⟨rfl, hb2⟩
    have HB2 := Lib.hid hb2
    clear hb2
    go_wp2_with fail
    go_ret2
    exact HB.out _ _ HE.out.symm HB2.out
set_option maxHeartbeats 2000000 in
theorem rApply_all (l : List Cd) (a : Option Addr) (cap : Nat) (order : List Int) (oa : Option Addr) (ocap : Nat) (w : World) (hin : CdsIn w a l) (hl : l.length ≤ 1099511627776) (ho : IntsIn w oa order) (hoc : order.length ≤ ocap) (hol : order.length ≤ 100000) :
    Calls Try.prog 27 #[.slice a l.length cap, .slice oa order.length ocap] w (ApplyPost l order w) := by
  have HOr := Lib.hid (rIsOrder_all l a cap order oa ocap w hin hl ho hoc hol)
  have HAp := Lib.hid (fun (u : World) (hb : Below w.heap.size w u) h1 => rapply_any l a cap order oa ocap u (hin.below hb) (ho.below hb) hol h1)
  have HBad := Lib.hid (app_bad l order w)
  have HGood := Lib.hid (app_good l order w)
  unfold IsOrdPost at HOr
  clear hin ho
  by_cases hz : ordE l order = 0
  · obtain ⟨h0, hp⟩ := ordE_zero hz
    have HAp := Lib.hid (fun u hb => HAp.out u hb (fun k hk => permO_get hp hk))
    have HE : Hid (appE l order = if behindN l order l.length = true then 0 else 7) := Lib.hid (if_pos hz)
    have hib : isB l order = behindN l order l.length := if_pos hz
    rw [hz, hib] at HOr
    clear hz h0 hp hib
    generalize behindN l order l.length = b at *
    cases b
    · have HE7 : Hid (appE l order = 7) := Lib.hid (by rw [HE.out]; rfl)
      have HB := Lib.hid (fun w' v hv => HBad.out w' v hv (by rw [HE7.out]; decide))
      clear HE HBad HGood HAp
      go_enter Try.func27, Try.ntmps27
      go_wp2_with fail
      refine HOr.out.mono ?_; rintro e w2 ⟨rfl, hb2⟩
      have HB2 := Lib.hid hb2
      clear hb2
      go_wp2_with fail
      go_ret2
      exact HB.out _ _ HE7.out.symm HB2.out
    · have HE0 : Hid (appE l order = 0) := Lib.hid (by rw [HE.out]; rfl)
      have HG := Lib.hid (fun w' B v => HGood.out w' B v HE0.out)
      clear HE HBad HGood HE0
      go_enter Try.func27, Try.ntmps27
      go_wp2_with fail
      refine HOr.out.mono ?_; rintro e w2 ⟨rfl, hb2⟩
      have HB2 := Lib.hid hb2
      clear hb2
      go_wp2_with fail
      refine (HAp.out _ HB2.out).mono ?_; rintro e w4 ⟨⟨v, rfl, hv⟩, hb4⟩
      have HV := Lib.hid hv
      have HB4 := Lib.hid (HB2.out.trans (hb4.mono HB2.out.size))
      clear hb4 hv
      go_wp2_with fail
      go_ret2
      exact HG.out _ _ _ HV.out HB4.out
  · have HEq : Hid (appE l order = ordE l order) := Lib.hid (if_neg hz)
    have HB := Lib.hid (fun w' v hv => HBad.out w' v hv (by rw [HEq.out]; exact hz))
    clear HGood HBad HAp
    generalize ordE l order = oe at *
    generalize isB l order = ib at *
    go_enter Try.func27, Try.ntmps27
    go_wp2_with fail
    refine HOr.out.mono ?_; rintro e w2 ⟨rfl, hb2⟩
    have HB2 := Lib.hid hb2
    clear hb2
    go_wp2_with fail
    go_ret2
    exact HB.out _ _ HEq.out.symm HB2.out
end Go.Proofs.Ytccpjfppkahbmaa
