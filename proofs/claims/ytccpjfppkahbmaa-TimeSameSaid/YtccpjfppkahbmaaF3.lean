/- The walks of time.IsOrder and time.Apply. -/
import Derived.Test.YtccpjfppkahbmaaF2
namespace Go.Proofs.Ytccpjfppkahbmaa
open Go.RowKit PK

theorem permO_mem {n : Nat} {order : List Int} (h : permO n order) {x : Int} : x ∈ order ↔ 0 ≤ x ∧ x < (n : Int) := by
  have hp : (sortI order).Perm order := List.mergeSort_perm _ _
  rw [← hp.mem_iff, h.2]
  unfold iota
  simp only [List.mem_map, List.mem_range]
  constructor
  · rintro ⟨k, hk, rfl⟩; omega
  · rintro ⟨h0, h1⟩; exact ⟨x.toNat, by omega, by omega⟩
theorem permO_get {n : Nat} {order : List Int} (h : permO n order) {k : Nat} (hk : k < order.length) : 0 ≤ order.getD k 0 ∧ order.getD k 0 < (n : Int) := by
  rw [← permO_mem h, List.getD_eq_getElem?_getD, List.getElem?_eq_getElem hk]
  exact List.getElem_mem hk
theorem ordE_zero {l : List Cd} {order : List Int} (h : ordE l order = 0) : tErr l = 0 ∧ permO l.length order := by
  unfold ordE at h
  split at h
  · rename_i h1
    split at h
    · rename_i h2; exact ⟨h1, h2⟩
    · cases h
  · rename_i h1; exact absurd h h1
def isB (l : List Cd) (order : List Int) : Bool := if ordE l order = 0 then behindN l order l.length else false
def IsOrdPost (l : List Cd) (order : List Int) (w : World) (e : Ending) (w' : World) : Prop := e = .returned (.tuple #[.bool (isB l order), .int .i64 (ordE l order)]) ∧ Below w.heap.size w w'
theorem isOrd_bad (l : List Cd) (order : List Int) (w w' : World) (v : Int) (hv : v = ordE l order) (h : ordE l order ≠ 0) (hb : Below w.heap.size w w') : IsOrdPost l order w (.returned (.tuple #[.bool false, .int .i64 v])) w' := by
  subst hv
  exact ⟨by rw [show isB l order = false from if_neg h], hb⟩
theorem isOrd_good (l : List Cd) (order : List Int) (w w' : World) (h : ordE l order = 0) (hb : Below w.heap.size w w') : IsOrdPost l order w (.returned (.tuple #[.bool (behindN l order l.length), .int .i64 0])) w' :=
  ⟨by rw [show isB l order = _ from if_pos h, h], hb⟩
def appE (l : List Cd) (order : List Int) : Int := if ordE l order = 0 then (if behindN l order l.length = true then 0 else 7) else ordE l order
def appL (l : List Cd) (order : List Int) : List Cd := if appE l order = 0 then applyL l order else []
theorem appE_zero {l : List Cd} {order : List Int} (h : appE l order = 0) : ordE l order = 0 ∧ behindN l order l.length = true := by
  unfold appE at h
  split at h
  · rename_i h1
    split at h
    · rename_i h2; exact ⟨h1, h2⟩
    · cases h
  · rename_i h1; exact absurd h h1
def ApplyPost (l : List Cd) (order : List Int) (w : World) (e : Ending) (w' : World) : Prop := (∃ a cap, e = .returned (.tuple #[.slice a (appL l order).length cap, .int .i64 (appE l order)]) ∧ CdsIn w' a (appL l order) ∧ (appL l order).length ≤ cap) ∧ Below w.heap.size w w'
theorem app_bad (l : List Cd) (order : List Int) (w w' : World) (v : Int) (hv : v = appE l order) (h : appE l order ≠ 0) (hb : Below w.heap.size w w') : ApplyPost l order w (.returned (.tuple #[.slice none 0 0, .int .i64 v])) w' := by
  subst hv
  have e : appL l order = [] := if_neg h
  unfold ApplyPost
  rw [e]
  exact ⟨⟨none, 0, rfl, CdsIn.nil _ _, Nat.le_refl _⟩, hb⟩
theorem app_good (l : List Cd) (order : List Int) (w w' : World) (B : Nat) (v : Value) (h : appE l order = 0) (ho : w'.ownsRow B 42 6 v (applyL l order).length (encC (applyL l order))) (hb : Below w.heap.size w w') : ApplyPost l order w (.returned (.tuple #[v, .int .i64 0])) w' := by
  have e : appL l order = applyL l order := if_pos h
  obtain ⟨a, cap, rfl, hc, hin⟩ := cds_of_owns ho
  unfold ApplyPost
  rw [e, h]
  exact ⟨⟨a, cap, rfl, hin, hc⟩, hb⟩
set_option maxHeartbeats 2000000 in
theorem IsOrder_any (l : List Cd) (a : Option Addr) (cap : Nat) (order : List Int) (oa : Option Addr) (ocap : Nat) (w : World) (hin : CdsIn w a l) (hlc : l.length ≤ cap) (hl : l.length ≤ 1099511627776) (ho : IntsIn w oa order) (hol : order.length ≤ 100000) :
    Calls Try.prog 25 #[.slice a l.length cap, .slice oa order.length ocap] w (IsOrdPost l order w) := by
  have HOr := Lib.hid (ordered_any l a cap order oa ocap w hin hl ho hol)
  have HIs := Lib.hid (fun (u : World) (hb : Below w.heap.size w u) h1 h2 => isOrder_any l a cap order oa ocap u (hin.below hb) hlc h1 h2 (ho.below hb) hol)
  have HBad := Lib.hid (isOrd_bad l order w)
  have HGood := Lib.hid (isOrd_good l order w)
  clear hin ho
  by_cases hz : ordE l order = 0
  · obtain ⟨h1, h2⟩ := tErr_zero (ordE_zero hz).1
    have HIs := Lib.hid (fun u hb => HIs.out u hb h1 h2)
    have HG := Lib.hid (fun w' => HGood.out w' hz)
    rw [hz] at HOr
    clear h1 h2 hz HBad HGood
    go_enter Try.func25, Try.ntmps25
    go_wp2_with fail
    refine HOr.out.mono ?_; rintro e w2 ⟨rfl, hb2⟩
    have HB2 := Lib.hid hb2
    clear hb2
    go_wp2_with fail
    refine (HIs.out _ HB2.out).mono ?_; rintro e w3 ⟨rfl, hb3⟩
    have HB3 := Lib.hid (HB2.out.trans (hb3.mono HB2.out.size))
    clear hb3
    go_wp2_with fail
    go_ret2
    exact HG.out _ HB3.out
  · have HB := Lib.hid (fun w' v hv => HBad.out w' v hv hz)
    clear HIs HGood HBad
    generalize ordE l order = oe at *
    go_enter Try.func25, Try.ntmps25
    go_wp2_with fail
    refine HOr.out.mono ?_; rintro e w2 ⟨rfl, hb2⟩
    have HB2 := Lib.hid hb2
    clear hb2
    go_wp2_with fail
    go_ret2
    exact HB.out _ _ rfl HB2.out
set_option maxHeartbeats 2000000 in
theorem Apply_any (l : List Cd) (a : Option Addr) (cap : Nat) (order : List Int) (oa : Option Addr) (ocap : Nat) (w : World) (hin : CdsIn w a l) (hlc : l.length ≤ cap) (hl : l.length ≤ 1099511627776) (ho : IntsIn w oa order) (hol : order.length ≤ 100000) :
    Calls Try.prog 21 #[.slice a l.length cap, .slice oa order.length ocap] w (ApplyPost l order w) := by
  have HOr := Lib.hid (ordered_any l a cap order oa ocap w hin hl ho hol)
  have HIs := Lib.hid (fun (u : World) (hb : Below w.heap.size w u) h1 h2 => isOrder_any l a cap order oa ocap u (hin.below hb) hlc h1 h2 (ho.below hb) hol)
  have HAp := Lib.hid (fun (u : World) (hb : Below w.heap.size w u) h1 => apply_any l a cap order oa ocap u (hin.below hb) (ho.below hb) hol h1)
  have HBad := Lib.hid (app_bad l order w)
  have HGood := Lib.hid (app_good l order w)
  clear hin ho
  by_cases hz : ordE l order = 0
  · obtain ⟨h0, hp⟩ := ordE_zero hz
    obtain ⟨h1, h2⟩ := tErr_zero h0
    have HIs := Lib.hid (fun u hb => HIs.out u hb h1 h2)
    have HAp := Lib.hid (fun u hb => HAp.out u hb (fun k hk => permO_get hp hk))
    have HE : Hid (appE l order = if behindN l order l.length = true then 0 else 7) := Lib.hid (if_pos hz)
    rw [hz] at HOr
    clear h1 h2 hz h0 hp
    generalize behindN l order l.length = b at *
    cases b
    · have HE7 : Hid (appE l order = 7) := Lib.hid (by rw [HE.out]; rfl)
      have HB := Lib.hid (fun w' v hv => HBad.out w' v hv (by rw [HE7.out]; decide))
      clear HE HBad HGood HAp
      go_enter Try.func21, Try.ntmps21
      go_wp2_with fail
      refine HOr.out.mono ?_; rintro e w2 ⟨rfl, hb2⟩
      have HB2 := Lib.hid hb2
      clear hb2
      go_wp2_with fail
      refine (HIs.out _ HB2.out).mono ?_; rintro e w3 ⟨rfl, hb3⟩
      have HB3 := Lib.hid (HB2.out.trans (hb3.mono HB2.out.size))
      clear hb3
      go_wp2_with fail
      go_ret2
      exact HB.out _ _ HE7.out.symm HB3.out
    · have HE0 : Hid (appE l order = 0) := Lib.hid (by rw [HE.out]; rfl)
      have HG := Lib.hid (fun w' B v => HGood.out w' B v HE0.out)
      clear HE HBad HGood HE0
      go_enter Try.func21, Try.ntmps21
      go_wp2_with fail
      refine HOr.out.mono ?_; rintro e w2 ⟨rfl, hb2⟩
      have HB2 := Lib.hid hb2
      clear hb2
      go_wp2_with fail
      refine (HIs.out _ HB2.out).mono ?_; rintro e w3 ⟨rfl, hb3⟩
      have HB3 := Lib.hid (HB2.out.trans (hb3.mono HB2.out.size))
      clear hb3
      go_wp2_with fail
      refine (HAp.out _ HB3.out).mono ?_; rintro e w4 ⟨⟨v, rfl, hv⟩, hb4⟩
      have HV := Lib.hid hv
      have HB4 := Lib.hid (HB3.out.trans (hb4.mono HB3.out.size))
      clear hb4 hv
      go_wp2_with fail
      go_ret2
      exact HG.out _ _ _ HV.out HB4.out
  · have HEq : Hid (appE l order = ordE l order) := Lib.hid (if_neg hz)
    have HB := Lib.hid (fun w' v hv => HBad.out w' v hv (by rw [HEq.out]; exact hz))
    clear HIs HGood HBad HAp
    generalize ordE l order = oe at *
    go_enter Try.func21, Try.ntmps21
    go_wp2_with fail
    refine HOr.out.mono ?_; rintro e w2 ⟨rfl, hb2⟩
    have HB2 := Lib.hid hb2
    clear hb2
    go_wp2_with fail
    go_ret2
    exact HB.out _ _ HEq.out.symm HB2.out
end Go.Proofs.Ytccpjfppkahbmaa
