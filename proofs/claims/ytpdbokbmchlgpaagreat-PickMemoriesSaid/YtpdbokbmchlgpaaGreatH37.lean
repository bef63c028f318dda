/- Packed of several texts. -/
import Derived.Test.YtpdbokbmchlgpaaGreatH30
import Derived.Test.YtpdbokbmchlgpaaGreatH31
import Derived.Test.YtpdbokbmchlgpaaGreatH36
import Derived.Test.YtpdbokbmchlgpaaGreatH13
namespace Go.Proofs.YtpdbokbmchlgpaaGreat.PK
open Go.RowKit

/-- A byte, or poison. -/
def byB (k : Int) : Bool := decide (-1 ≤ k ∧ k ≤ 255)
/-- An input fits a function. -/
def inP (F : Fun) (l : List Int) (ls : List (List Int)) : Prop :=
  l.length = F.ps.length ∧ ls.length = F.sl.length ∧ (∀ i, i < F.ps.length → l.getD i 0 ≤ mxI (F.ps.getD i 0)) ∧
    ∀ s, s < F.sl.length → ((ls.getD s []).length : Int) = F.sl.getD s 0 ∧ (ls.getD s []).all byB = true
open Classical in
/-- The first error of a function and an input. -/
noncomputable def inE (F : Fun) (l : List Int) (ls : List (List Int)) : Int := if errF F = 0 then (if inP F l ls then 0 else 1) else errF F
theorem inE_no {F : Fun} {l : List Int} {ls : List (List Int)} (h : errF F ≠ 0) : inE F l ls = errF F := if_neg h
theorem inE_bad {F : Fun} {l : List Int} {ls : List (List Int)} (h : errF F = 0) (h2 : ¬ inP F l ls) : inE F l ls = 1 := by unfold inE; rw [if_pos h, if_neg h2]
theorem inE_ok {F : Fun} {l : List Int} {ls : List (List Int)} (h : errF F = 0) (h2 : inP F l ls) : inE F l ls = 0 := by unfold inE; rw [if_pos h, if_pos h2]
theorem inE_zero {F : Fun} {l : List Int} {ls : List (List Int)} (h : inE F l ls = 0) : errF F = 0 ∧ inP F l ls := by
  by_cases h1 : errF F = 0
  · by_cases h2 : inP F l ls
    · exact ⟨h1, h2⟩
    · rw [inE_bad h1 h2] at h; cases h
  · rw [inE_no h1] at h; exact absurd h h1
theorem ivC_any (k : Int) (w : World) : Calls Tryz.prog 54 #[.int .i64 k] w fun e w' => e = .returned (.bool (!byB k)) ∧ Below w.heap.size w w' := by
  have HN : Hid (byB k = decide (-1 ≤ k ∧ k ≤ 255)) := Lib.hid rfl
  generalize byB k = r at *
  by_cases h1 : k < -1
  · obtain rfl : r = false := HN.out.trans (decide_eq_false (by omega))
    go_enter Tryz.func54, Tryz.ntmps54
    go_wp2_with fail
    go_ret
    exact ⟨rfl, Below.refl _ _⟩
  · by_cases h2 : 255 < k
    · obtain rfl : r = false := HN.out.trans (decide_eq_false (by omega))
      go_enter Tryz.func54, Tryz.ntmps54
      go_wp2_with fail
      go_ret
      exact ⟨rfl, Below.refl _ _⟩
    · obtain rfl : r = true := HN.out.trans (decide_eq_true ⟨by omega, by omega⟩)
      go_enter Tryz.func54, Tryz.ntmps54
      go_wp2_with fail
      go_ret
      exact ⟨rfl, Below.refl _ _⟩
theorem iv_enter : ∀ args w, (callFunc 54 args).run Tryz.prog w = .ok (.enter 54 args) w := enters_of Tryz.func54 (by kernel_rfl) rfl
theorem w1Width_any (n : Int) (w : World) : Calls Tryz.prog 117 #[.int .i64 n] w fun e w' => e = .returned (.bool (isNum n)) ∧ w' = w := by
  have HN : Hid (isNum n = decide (1 ≤ n ∧ n ≤ 32)) := Lib.hid rfl
  generalize isNum n = r at *
  by_cases h1 : 1 ≤ n
  · by_cases h2 : n ≤ 32
    · obtain rfl : r = true := HN.out.trans (decide_eq_true ⟨h1, h2⟩)
      go_enter Tryz.func117, Tryz.ntmps117
      go_wp2_with fail
      go_ret
      exact ⟨rfl, rfl⟩
    · obtain rfl : r = false := HN.out.trans (decide_eq_false (by omega))
      go_enter Tryz.func117, Tryz.ntmps117
      go_wp2_with fail
      go_ret
      exact ⟨rfl, rfl⟩
  · obtain rfl : r = false := HN.out.trans (decide_eq_false (by omega))
    go_enter Tryz.func117, Tryz.ntmps117
    go_wp2_with fail
    go_ret
    exact ⟨rfl, rfl⟩
theorem w1Size_any (n : Int) (w : World) (h1 : 1 ≤ n) (h2 : n ≤ 32) : Calls Tryz.prog 118 #[.int .i64 n] w fun e w' => e = .returned (.int .i64 (2 ^ n.toNat)) ∧ w' = w := by
  have hpw := powI_bd n h2
  have hn0 : 0 ≤ n := by omega
  have hn1 : n < 4294967296 := by omega
  go_enter Tryz.func118, Tryz.ntmps118
  go_wp2_with fail
  go_ret
  exact ⟨rfl, rfl⟩
theorem w1IsWord_any (n x : Int) (w : World) (hx : isW x) : Calls Tryz.prog 55 #[.int .i64 n, .int .u32 x] w fun e w' => e = .returned (.bool (isNum n && decide (x ≤ mxI n))) ∧ w' = w := by
  have HW := Lib.hid (w1Width_any n)
  obtain ⟨hx0, hx1⟩ := hx
  cases h : isNum n
  · rw [h] at HW
    rw [Bool.false_and]
    go_enter Tryz.func55, Tryz.ntmps55
    go_wp2_with fail
    refine (HW.out _).mono ?_; rintro e w2 ⟨rfl, rfl⟩
    go_wp2_with fail
    go_ret
    exact ⟨rfl, rfl⟩
  · have h1 := isNum_iff.1 h
    rw [h] at HW
    rw [Bool.true_and]
    have HS := Lib.hid (fun u => w1Size_any n u h1.1 h1.2)
    have hpw := powI_bd n h1.2
    have HE : Hid (decide (x < 2 ^ n.toNat) = decide (x ≤ mxI n)) := Lib.hid (by
      rw [decide_eq_decide]; unfold mxI; omega)
    rw [← HE.out]
    generalize (2 : Int) ^ n.toNat = P at *
    clear h h1
    go_enter Tryz.func55, Tryz.ntmps55
    go_wp2_with fail
    refine (HW.out _).mono ?_; rintro e w2 ⟨rfl, rfl⟩
    go_wp2_with fail
    refine (HS.out _).mono ?_; rintro e w2 ⟨rfl, rfl⟩
    go_wp2_with fail
    go_ret
    exact ⟨rfl, rfl⟩
end Go.Proofs.YtpdbokbmchlgpaaGreat.PK
namespace Go.Proofs.YtpdbokbmchlgpaaGreat.PK
open Go.RowKit

theorem head_num {F : Fun} (h : headB F = true) {k : Nat} (hk : k < F.ps.length) : isNum (F.ps.getD k 0) = true := by
  unfold headB at h
  simp only [Bool.and_eq_true] at h
  exact List.all_eq_true.1 h.1.1 _ (getDm hk)
theorem head_slot {F : Fun} (h : headB F = true) {k : Nat} (hk : k < F.sl.length) : 1 ≤ F.sl.getD k 0 ∧ F.sl.getD k 0 ≤ 8 := by
  unfold headB at h
  simp only [Bool.and_eq_true] at h
  exact of_decide_eq_true (List.all_eq_true.1 h.2 _ (getDm hk))
set_option maxRecDepth 100000 in
set_option maxHeartbeats 2000000 in
theorem ValidateInput_any (F : Fun) (A : FunA) (l : List Int) (ls : List (List Int)) (a b : Option Addr) (c e : Nat) (w : World) (hin : FunIn w F A) (hok : FunOk F) (hl : WsIn w a l) (hls : RowsIn w b ls) (hw : ∀ k, k < l.length → isW (l.getD k 0)) (hsm : InSm l ls) :
    Calls Tryz.prog 23 #[funV F A, inV l ls a b c e] w (ErrPost (inE F l ls) w) := by
  obtain ⟨pa, pc, sa, sc, ba, bc⟩ := A
  have hal : Below w.heap.size w ((w.alloc (.cells #[.slice pa F.ps.length pc, .int .i64 F.ret, .slice sa F.sl.length sc, .slice ba F.bs.length bc] 25)).alloc (.cells #[.slice a l.length c, .slice b ls.length e] 29)) := ((Below.refl _ _).alloc (Nat.le_refl _) _).alloc (by simp) _
  have HI := Lib.hid (hin.below hal); have HL := Lib.hid (hl.below hal); have HLs := Lib.hid (hls.below hal)
  have hr1 : ((w.alloc (.cells #[.slice pa F.ps.length pc, .int .i64 F.ret, .slice sa F.sl.length sc, .slice ba F.bs.length bc] 25)).alloc (.cells #[.slice a l.length c, .slice b ls.length e] 29)).heap[w.heap.size + 1]? = some ((.cells #[.slice a l.length c, .slice b ls.length e] 29) : Obj) := by
    have := heap_alloc_new (w.alloc (.cells #[.slice pa F.ps.length pc, .int .i64 F.ret, .slice sa F.sl.length sc, .slice ba F.bs.length bc] 25)) (.cells #[.slice a l.length c, .slice b ls.length e] 29)
    simpa using this
  have hr0 : ((w.alloc (.cells #[.slice pa F.ps.length pc, .int .i64 F.ret, .slice sa F.sl.length sc, .slice ba F.bs.length bc] 25)).alloc (.cells #[.slice a l.length c, .slice b ls.length e] 29)).heap[w.heap.size]? = some ((.cells #[.slice pa F.ps.length pc, .int .i64 F.ret, .slice sa F.sl.length sc, .slice ba F.bs.length bc] 25) : Obj) := by
    rw [Below.heap_alloc _ _ _ (by simp)]
    exact heap_alloc_new _ _
  have HB0 := Lib.hid hal
  have g0 := cell_of_row _ _ 0 _ _ _ hr0; have g1 := cell_of_row _ _ 1 _ _ _ hr0; have g2 := cell_of_row _ _ 2 _ _ _ hr0; have g3 := cell_of_row _ _ 3 _ _ _ hr0
  have i0 := cell_of_row _ _ 0 _ _ _ hr1; have i1 := cell_of_row _ _ 1 _ _ _ hr1
  have HG0 := Lib.hid g0; have HG2 := Lib.hid g2; have HI0 := Lib.hid i0; have HI1 := Lib.hid i1
  have HVa := Lib.hid (fun u (h : FunIn u F ⟨pa, pc, sa, sc, ba, bc⟩) => Validate_ir_any F ⟨pa, pc, sa, sc, ba, bc⟩ u h hok)
  have HPP : Hid (∀ n W', inE F l ls = n → Below w.heap.size w W' → ErrPost (inE F l ls) w (.returned (.int .i64 n)) W') := Lib.hid fun n W' h1 h2 => ⟨by rw [h1], h2⟩
  have HNo := Lib.hid (fun h => inE_no (F := F) (l := l) (ls := ls) h)
  have HBad := Lib.hid (fun h h2 => inE_bad (F := F) (l := l) (ls := ls) h h2)
  have HOk := Lib.hid (fun h h2 => inE_ok (F := F) (l := l) (ls := ls) h h2)
  have HGd := Lib.hid (fun h => errF_good (F := F) h)
  have hsp := hok.sm.ps; have hss := hok.sm.sl
  have hn1 := hsm.ar; have hn2 := hsm.me
  have HRow := Lib.hid hsm.row; have HW := Lib.hid hw
  have HIn : Hid (inP F l ls ↔ l.length = F.ps.length ∧ ls.length = F.sl.length ∧ (∀ i, i < F.ps.length → l.getD i 0 ≤ mxI (F.ps.getD i 0)) ∧ ∀ s, s < F.sl.length → ((ls.getD s []).length : Int) = F.sl.getD s 0 ∧ (ls.getD s []).all byB = true) := Lib.hid Iff.rfl
  generalize ErrPost (inE F l ls) w = PP at *
  generalize inE F l ls = R at *
  clear hin hal hr0 hr1 hok hl hls hw hsm
  simp only [funV, funC, inV] at HVa ⊢
  generalize hnp : F.ps.length = np at *
  have HNp := Lib.hid hnp; clear hnp
  generalize hns : F.sl.length = ns at *
  have HNs := Lib.hid hns; clear hns
  generalize hnl : l.length = nl at *
  have HNl := Lib.hid hnl; clear hnl
  generalize hnm : ls.length = nm at *
  have HNm := Lib.hid hnm; clear hnm
  go_enter Tryz.func23, Tryz.ntmps23
  go_upto_region 1 with fail
  generalize ((w.alloc _).alloc _) = w1 at *
  have HV1 := Lib.hid (HVa.out w1 HI.out)
  go_wp2_with fail
  refine HV1.out.mono ?_; rintro e w2 ⟨rfl, hb2⟩
  have HB2 := Lib.hid hb2
  have HBw := Lib.hid (HB0.out.trans (hb2.mono HB0.out.size))
  have HI2 := Lib.hid (HI.out.below hb2); have HL2 := Lib.hid (HL.out.below hb2); have HLs2 := Lib.hid (HLs.out.below hb2)
  have d0 := keep HG0.out hb2; have d2 := keep HG2.out hb2; have j0 := keep HI0.out hb2; have j1 := keep HI1.out hb2
  have HD0 := Lib.hid d0; have HD2 := Lib.hid d2; have HJ0 := Lib.hid j0; have HJ1 := Lib.hid j1
  clear hb2 g0 g1 g2 g3 i0 i1
  generalize hee : errF F = ee at *
  have HEe := Lib.hid hee; clear hee
  by_cases h0 : ee = 0
  rotate_left
  · have HE := Lib.hid (HPP.out ee w2 (HNo.out h0) HBw.out)
    have q : (ee != 0) = true := bne_iff_ne.2 h0
    clear h0
    go_wp2_with fail
    first | exact HE.out | (go_ret; exact HE.out)
  subst h0
  have HG := Lib.hid (HGd.out rfl)
  have q0 : ((0 : Int) != 0) = false := rfl
  by_cases e1 : nl = np
  rotate_left
  · have HE := Lib.hid (HPP.out 1 w2 (HBad.out rfl (fun h => e1 (HIn.out.1 h).1)) HBw.out)
    have q : ((nl : Int) != (np : Int)) = true := bne_iff_ne.2 (by omega)
    clear e1
    go_wp2_with fail
    first | exact HE.out | (go_ret; exact HE.out)
  have qe1 : ((nl : Int) != (np : Int)) = false := by simp [e1]
  by_cases e2 : nm = ns
  rotate_left
  · have HE := Lib.hid (HPP.out 1 w2 (HBad.out rfl (fun h => e2 (HIn.out.1 h).2.1)) HBw.out)
    have q : ((nm : Int) != (ns : Int)) = true := bne_iff_ne.2 (by omega)
    clear e1 e2
    go_wp2_with fail
    first | exact HE.out | (go_ret; exact HE.out)
  subst e1 e2
  clear qe1
  go_wp2_with fail
  clear d0 d2 j0 j1 q0
  go_loopw [36] (fun i wr => ∃ k : Nat, k ≤ nl ∧ i = .int .i64 k ∧ Hid (∀ m, m < k → l.getD m 0 ≤ mxI (F.ps.getD m 0)) ∧ w2 = wr) (fun i _ => nl - (intOf i).toNat)
  case atStart => exact ⟨0, Nat.zero_le _, rfl, Lib.hid fun j hj => absurd hj (Nat.not_lt_zero _), rfl⟩
  case round =>
    obtain ⟨k, hk, rfl, HK, rfl⟩ := hrel
    by_cases hlt : k < nl
    · have hki : (k : Int) < (nl : Int) := by omega
      obtain ⟨b1, o1, ha1, c1⟩ := HI2.out.ps k (by rw [HNp.out]; exact hlt)
      obtain ⟨b2, o2, ha2, c2⟩ := HL2.out k (by rw [HNl.out]; exact hlt)
      obtain rfl : pa = _ := ha1
      obtain rfl : a = _ := ha2
      have j0 := HJ0.out
      have hnum : isNum (F.ps.getD k 0) = true := head_num HG.out.head (by rw [HNp.out]; exact hlt)
      have HMk : Hid (∀ u, Calls Tryz.prog 52 #[.int .i64 (F.ps.getD k 0)] u fun e w' => e = .returned (.tuple #[.int .u32 (mxI (F.ps.getD k 0)), .int .i64 0]) ∧ u = w') := Lib.hid fun u => by
        have := Mask_any (F.ps.getD k 0) u
        rwa [hnum, if_pos rfl, if_pos rfl] at this
      have HNk : Hid (¬ l.getD k 0 ≤ mxI (F.ps.getD k 0) → R = 1) := Lib.hid fun h => HBad.out (by trivial) fun h2 => h ((HIn.out.1 h2).2.2.1 k hlt)
      have HKx : Hid (l.getD k 0 ≤ mxI (F.ps.getD k 0) → ∀ m, m < k + 1 → l.getD m 0 ≤ mxI (F.ps.getD m 0)) := Lib.hid fun h m hm => by
        by_cases e : m = k
        · subst e; exact h
        · exact HK.out m (by omega)
      clear hnum
      generalize mxI (F.ps.getD k 0) = mx at *
      generalize F.ps.getD k 0 = y at *
      generalize l.getD k 0 = x at *
      by_cases hx : x ≤ mx
      · have hxn : ¬ mx < x := by omega
        have HKn := Lib.hid (HKx.out hx)
        clear hx
        go_wp2_with fail
        refine (HMk.out _).mono ?_; rintro e w3 ⟨rfl, rfl⟩
        go_wp2_with fail
        go_roundw
        case rel => exact ⟨k + 1, by omega, by go_num, HKn, by trivial⟩
        case measure => simp [intOf]; omega
      · have hxn : mx < x := by omega
        have HE := Lib.hid (HPP.out 1 w2 (HNk.out hx) HBw.out)
        clear hx
        go_wp2_with fail
        refine (HMk.out _).mono ?_; rintro e w3 ⟨rfl, rfl⟩
        go_wp2_with fail
        first | exact HE.out | (go_ret; exact HE.out)
    obtain rfl : k = nl := by omega
    have HKa := Lib.hid HK.out
    have d2 := HD2.out
    go_wp2_with fail
    clear d2 hk
    go_loopw [57] (fun i wr => ∃ s : Nat, s ≤ nm ∧ i = .int .i64 s ∧ Hid (∀ m, m < s → ((ls.getD m []).length : Int) = F.sl.getD m 0 ∧ (ls.getD m []).all byB = true) ∧ Below w2.heap.size w2 wr) (fun i _ => nm - (intOf i).toNat)
    case atStart => exact ⟨0, Nat.zero_le _, rfl, Lib.hid fun j hj => absurd hj (Nat.not_lt_zero _), Below.refl _ _⟩
    case round =>
      obtain ⟨s, hs, rfl, HS, hbs⟩ := hrel
      have HBs := Lib.hid hbs
      have HBx := Lib.hid (HBw.out.trans (hbs.mono HBw.out.size))
      by_cases hls : s < nm
      rotate_left
      · obtain rfl : s = nm := by omega
        have HE := Lib.hid (HPP.out 0 wr (HOk.out (by trivial) (HIn.out.2 ⟨by trivial, by trivial, HKa.out, HS.out⟩)) HBx.out)
        clear hbs
        go_wp2_with fail
        first | exact HE.out | (go_ret; exact HE.out)
      have hsi : (s : Int) < (nm : Int) := by omega
      obtain ⟨b1, o1, ha1, c1⟩ := (HI2.out.below hbs).sl s (by rw [HNs.out]; exact hls)
      obtain ⟨b2, o2, a2, c2', ha2, c2, hrow⟩ := (HLs2.out.below hbs) s (by rw [HNm.out]; exact hls)
      obtain rfl : sa = _ := ha1
      obtain rfl : b = _ := ha2
      have j1 := keep HJ1.out hbs
      have hrl := HRow.out s hls
      have HCn := Lib.hid (conI_any 54 #[] iv_enter (fun k => !byB k) (ls.getD s []) a2 c2' wr hrow (by omega) (fun k W' _ _ => ivC_any _ W'))
      have HNs2 : Hid (¬ (((ls.getD s []).length : Int) = F.sl.getD s 0 ∧ (ls.getD s []).all byB = true) → R = 1) := Lib.hid fun h => HBad.out (by trivial) fun h2 => h ((HIn.out.1 h2).2.2.2 s hls)
      have HSx : Hid ((((ls.getD s []).length : Int) = F.sl.getD s 0 ∧ (ls.getD s []).all byB = true) → ∀ m, m < s + 1 → ((ls.getD m []).length : Int) = F.sl.getD m 0 ∧ (ls.getD m []).all byB = true) := Lib.hid fun h m hm => by
        by_cases e : m = s
        · subst e; exact h
        · exact HS.out m (by omega)
      have han : ((ls.getD s []).any fun k => !byB k) = !((ls.getD s []).all byB) := by rw [← List.not_all_eq_any_not]
      rw [han] at HCn
      clear hbs hrow han
      generalize (ls.getD s []).all byB = ab at *
      generalize hrr : (ls.getD s []).length = rr at *
      clear hrr
      generalize F.sl.getD s 0 = y at *
      by_cases hy : (rr : Int) = y
      rotate_left
      · have q : ((rr : Int) != y) = true := bne_iff_ne.2 hy
        have HE := Lib.hid (HPP.out 1 wr (HNs2.out (fun h => hy h.1)) HBx.out)
        clear hy
        go_wp2_with fail
        first | exact HE.out | (go_ret; exact HE.out)
      have q : ((rr : Int) != y) = false := by simp [hy]
      have HY := Lib.hid hy
      clear hy
      cases ab
      · have HE : Hid (∀ W', Below wr.heap.size wr W' → PP (.returned (.int .i64 1)) W') := Lib.hid fun W' h => HPP.out 1 W' (HNs2.out (fun h => by cases h.2)) (HBx.out.trans (h.mono HBx.out.size))
        go_wp2_with (first | (go_at_call 53; refine HCn.out.mono ?_; rintro e w3 ⟨rfl, hb3⟩; have HB3 := Lib.hid hb3; clear hb3))
        first | exact HE.out _ HB3.out | (go_ret; exact HE.out _ HB3.out)
      · have HSn := Lib.hid (HSx.out ⟨HY.out, rfl⟩)
        go_wp2_with (first | (go_at_call 53; refine HCn.out.mono ?_; rintro e w3 ⟨rfl, hb3⟩; have HB3 := Lib.hid hb3; clear hb3))
        go_roundw
        case rel => exact ⟨s + 1, by omega, by go_num, HSn, HBs.out.trans (HB3.out.mono HBs.out.size)⟩
        case measure => simp [intOf]; omega
end Go.Proofs.YtpdbokbmchlgpaaGreat.PK
namespace Go.Proofs.YtpdbokbmchlgpaaGreat.PK
open Go.RowKit

set_option maxRecDepth 100000 in
set_option maxHeartbeats 2000000 in
theorem rValidateInput_any (F : Fun) (A : FunA) (l : List Int) (ls : List (List Int)) (a b : Option Addr) (c e : Nat) (w : World) (hin : FunIn w F A) (hok : FunOk F) (hl : WsIn w a l) (hls : RowsIn w b ls) (hw : ∀ k, k < l.length → isW (l.getD k 0)) (hsm : InSm l ls) :
    Calls Tryz.prog 26 #[funV F A, inV l ls a b c e] w (ErrPost (inE F l ls) w) := by
  obtain ⟨pa, pc, sa, sc, ba, bc⟩ := A
  have hal : Below w.heap.size w ((w.alloc (.cells #[.slice pa F.ps.length pc, .int .i64 F.ret, .slice sa F.sl.length sc, .slice ba F.bs.length bc] 25)).alloc (.cells #[.slice a l.length c, .slice b ls.length e] 29)) := ((Below.refl _ _).alloc (Nat.le_refl _) _).alloc (by simp) _
  have HI := Lib.hid (hin.below hal); have HL := Lib.hid (hl.below hal); have HLs := Lib.hid (hls.below hal)
  have hr1 : ((w.alloc (.cells #[.slice pa F.ps.length pc, .int .i64 F.ret, .slice sa F.sl.length sc, .slice ba F.bs.length bc] 25)).alloc (.cells #[.slice a l.length c, .slice b ls.length e] 29)).heap[w.heap.size + 1]? = some ((.cells #[.slice a l.length c, .slice b ls.length e] 29) : Obj) := by
    have := heap_alloc_new (w.alloc (.cells #[.slice pa F.ps.length pc, .int .i64 F.ret, .slice sa F.sl.length sc, .slice ba F.bs.length bc] 25)) (.cells #[.slice a l.length c, .slice b ls.length e] 29)
    simpa using this
  have hr0 : ((w.alloc (.cells #[.slice pa F.ps.length pc, .int .i64 F.ret, .slice sa F.sl.length sc, .slice ba F.bs.length bc] 25)).alloc (.cells #[.slice a l.length c, .slice b ls.length e] 29)).heap[w.heap.size]? = some ((.cells #[.slice pa F.ps.length pc, .int .i64 F.ret, .slice sa F.sl.length sc, .slice ba F.bs.length bc] 25) : Obj) := by
    rw [Below.heap_alloc _ _ _ (by simp)]
    exact heap_alloc_new _ _
  have HB0 := Lib.hid hal
  have g0 := cell_of_row _ _ 0 _ _ _ hr0; have g1 := cell_of_row _ _ 1 _ _ _ hr0; have g2 := cell_of_row _ _ 2 _ _ _ hr0; have g3 := cell_of_row _ _ 3 _ _ _ hr0
  have i0 := cell_of_row _ _ 0 _ _ _ hr1; have i1 := cell_of_row _ _ 1 _ _ _ hr1
  have HG0 := Lib.hid g0; have HG2 := Lib.hid g2; have HI0 := Lib.hid i0; have HI1 := Lib.hid i1
  have HVa := Lib.hid (fun u (h : FunIn u F ⟨pa, pc, sa, sc, ba, bc⟩) => rValidate_any F ⟨pa, pc, sa, sc, ba, bc⟩ u h hok)
  have HPP : Hid (∀ n W', inE F l ls = n → Below w.heap.size w W' → ErrPost (inE F l ls) w (.returned (.int .i64 n)) W') := Lib.hid fun n W' h1 h2 => ⟨by rw [h1], h2⟩
  have HNo := Lib.hid (fun h => inE_no (F := F) (l := l) (ls := ls) h)
  have HBad := Lib.hid (fun h h2 => inE_bad (F := F) (l := l) (ls := ls) h h2)
  have HOk := Lib.hid (fun h h2 => inE_ok (F := F) (l := l) (ls := ls) h h2)
  have HGd := Lib.hid (fun h => errF_good (F := F) h)
  have hsp := hok.sm.ps; have hss := hok.sm.sl
  have hn1 := hsm.ar; have hn2 := hsm.me
  have HRow := Lib.hid hsm.row; have HW := Lib.hid hw
  have HIn : Hid (inP F l ls ↔ l.length = F.ps.length ∧ ls.length = F.sl.length ∧ (∀ i, i < F.ps.length → l.getD i 0 ≤ mxI (F.ps.getD i 0)) ∧ ∀ s, s < F.sl.length → ((ls.getD s []).length : Int) = F.sl.getD s 0 ∧ (ls.getD s []).all byB = true) := Lib.hid Iff.rfl
  generalize ErrPost (inE F l ls) w = PP at *
  generalize inE F l ls = R at *
  clear hin hal hr0 hr1 hok hl hls hw hsm
  simp only [funV, funC, inV] at HVa ⊢
  generalize hnp : F.ps.length = np at *
  have HNp := Lib.hid hnp; clear hnp
  generalize hns : F.sl.length = ns at *
  have HNs := Lib.hid hns; clear hns
  generalize hnl : l.length = nl at *
  have HNl := Lib.hid hnl; clear hnl
  generalize hnm : ls.length = nm at *
  have HNm := Lib.hid hnm; clear hnm
  go_enter Tryz.func26, Tryz.ntmps26
  go_upto_region 1 with fail
  generalize ((w.alloc _).alloc _) = w1 at *
  have HV1 := Lib.hid (HVa.out w1 HI.out)
  go_wp2_with fail
  refine HV1.out.mono ?_; rintro e w2 ⟨rfl, hb2⟩
  have HB2 := Lib.hid hb2
  have HBw := Lib.hid (HB0.out.trans (hb2.mono HB0.out.size))
  have HI2 := Lib.hid (HI.out.below hb2); have HL2 := Lib.hid (HL.out.below hb2); have HLs2 := Lib.hid (HLs.out.below hb2)
  have d0 := keep HG0.out hb2; have d2 := keep HG2.out hb2; have j0 := keep HI0.out hb2; have j1 := keep HI1.out hb2
  have HD0 := Lib.hid d0; have HD2 := Lib.hid d2; have HJ0 := Lib.hid j0; have HJ1 := Lib.hid j1
  clear hb2 g0 g1 g2 g3 i0 i1
  generalize hee : errF F = ee at *
  have HEe := Lib.hid hee; clear hee
  by_cases h0 : ee = 0
  rotate_left
  · have HE := Lib.hid (HPP.out ee w2 (HNo.out h0) HBw.out)
    have q : (ee != 0) = true := bne_iff_ne.2 h0
    clear h0
    go_wp2_with fail
    first | exact HE.out | (go_ret; exact HE.out)
  subst h0
  have HG := Lib.hid (HGd.out rfl)
  have q0 : ((0 : Int) != 0) = false := rfl
  by_cases e1 : nl = np
  rotate_left
  · have HE := Lib.hid (HPP.out 1 w2 (HBad.out rfl (fun h => e1 (HIn.out.1 h).1)) HBw.out)
    have q : ((nl : Int) != (np : Int)) = true := bne_iff_ne.2 (by omega)
    clear e1
    go_wp2_with fail
    first | exact HE.out | (go_ret; exact HE.out)
  have qe1 : ((nl : Int) != (np : Int)) = false := by simp [e1]
  by_cases e2 : nm = ns
  rotate_left
  · have HE := Lib.hid (HPP.out 1 w2 (HBad.out rfl (fun h => e2 (HIn.out.1 h).2.1)) HBw.out)
    have q : ((nm : Int) != (ns : Int)) = true := bne_iff_ne.2 (by omega)
    clear e1 e2
    go_wp2_with fail
    first | exact HE.out | (go_ret; exact HE.out)
  subst e1 e2
  clear qe1
  go_wp2_with fail
  clear d0 d2 j0 j1 q0
  go_loopw [6] (fun i wr => ∃ k : Nat, k ≤ nl ∧ i = .int .i64 k ∧ Hid (∀ m, m < k → l.getD m 0 ≤ mxI (F.ps.getD m 0)) ∧ Below w2.heap.size w2 wr) (fun i _ => nl - (intOf i).toNat)
  case atStart => exact ⟨0, Nat.zero_le _, rfl, Lib.hid fun j hj => absurd hj (Nat.not_lt_zero _), Below.refl _ _⟩
  case round =>
    obtain ⟨k, hk, rfl, HK, hbk⟩ := hrel
    have HBk := Lib.hid hbk
    have HBkw := Lib.hid (HBw.out.trans (hbk.mono HBw.out.size))
    by_cases hlt : k < nl
    · have hki : (k : Int) < (nl : Int) := by omega
      obtain ⟨b1, o1, ha1, c1⟩ := (HI2.out.below hbk).ps k (by rw [HNp.out]; exact hlt)
      obtain ⟨b2, o2, ha2, c2⟩ := (HL2.out.below hbk) k (by rw [HNl.out]; exact hlt)
      obtain rfl : pa = _ := ha1
      obtain rfl : a = _ := ha2
      have j0 := keep HJ0.out hbk; have d0 := keep HD0.out hbk
      have hnum : isNum (F.ps.getD k 0) = true := head_num HG.out.head (by rw [HNp.out]; exact hlt)
      have HMk : Hid (∀ u, Calls Tryz.prog 55 #[.int .i64 (F.ps.getD k 0), .int .u32 (l.getD k 0)] u fun e w' => e = .returned (.bool (decide (l.getD k 0 ≤ mxI (F.ps.getD k 0)))) ∧ w' = u) := Lib.hid fun u => by
        have := w1IsWord_any (F.ps.getD k 0) (l.getD k 0) u (HW.out k hlt)
        rwa [hnum, Bool.true_and] at this
      have HNk : Hid (¬ l.getD k 0 ≤ mxI (F.ps.getD k 0) → R = 1) := Lib.hid fun h => HBad.out (by trivial) fun h2 => h ((HIn.out.1 h2).2.2.1 k hlt)
      have HKx : Hid (l.getD k 0 ≤ mxI (F.ps.getD k 0) → ∀ m, m < k + 1 → l.getD m 0 ≤ mxI (F.ps.getD m 0)) := Lib.hid fun h m hm => by
        by_cases e : m = k
        · subst e; exact h
        · exact HK.out m (by omega)
      clear hnum hbk
      generalize hdd : decide (l.getD k 0 ≤ mxI (F.ps.getD k 0)) = dd at *
      have HDd := Lib.hid hdd; clear hdd
      generalize F.ps.getD k 0 = y at *
      generalize l.getD k 0 = x at *
      go_upto_region 9 with fail
      go_quiet ((go_at_call 55; exact Calls.quiet_of_same (HMk.out _)))
      cases dd
      · have HE := Lib.hid (fun W' (h : Below w.heap.size w W') => HPP.out 1 W' (HNk.out (of_decide_eq_false HDd.out)) h)
        clear j0 d0 c1 c2
        go_wp2_with fail
        first | exact HE.out _ (below_drewN HBkw.out _) | (go_ret; exact HE.out _ (below_drewN HBkw.out _))
      · have HKn := Lib.hid (HKx.out (of_decide_eq_true HDd.out))
        clear j0 d0 c1 c2
        go_wp2_with fail
        go_roundw
        case rel => exact ⟨k + 1, by omega, by go_num, HKn, below_drewN HBk.out _⟩
        case measure => simp [intOf]; omega
    obtain rfl : k = nl := by omega
    obtain ⟨wo, rfl⟩ : ∃ wo, wo = wr := ⟨_, rfl⟩
    have HKa := Lib.hid HK.out
    have j0 := keep HJ0.out hbk
    clear hbk hk
    go_wp2_with fail
    clear j0
    go_loopw [7] (fun i wr => ∃ s : Nat, s ≤ nm ∧ i = .int .i64 s ∧ Hid (∀ m, m < s → ((ls.getD m []).length : Int) = F.sl.getD m 0 ∧ (ls.getD m []).all byB = true) ∧ Below w2.heap.size w2 wr) (fun i _ => nm - (intOf i).toNat)
    case atStart => exact ⟨0, Nat.zero_le _, rfl, Lib.hid fun j hj => absurd hj (Nat.not_lt_zero _), HBk.out⟩
    case round =>
      obtain ⟨s, hs, rfl, HS, hbs⟩ := hrel
      obtain ⟨ws, rfl⟩ : ∃ ws, ws = wr := ⟨_, rfl⟩
      have HBs := Lib.hid hbs
      have HBx := Lib.hid (HBw.out.trans (hbs.mono HBw.out.size))
      have j1 := keep HJ1.out hbs; have d2 := keep HD2.out hbs
      by_cases hls : s < nm
      rotate_left
      · obtain rfl : s = nm := by omega
        have HE := Lib.hid (HPP.out 0 ws (HOk.out (by trivial) (HIn.out.2 ⟨by trivial, by trivial, HKa.out, HS.out⟩)) HBx.out)
        clear hbs
        go_wp2_with fail
        first | exact HE.out | (go_ret; exact HE.out)
      have hsi : (s : Int) < (nm : Int) := by omega
      obtain ⟨b1, o1, ha1, c1⟩ := (HI2.out.below hbs).sl s (by rw [HNs.out]; exact hls)
      obtain ⟨b2, o2, a2, c2', ha2, c2, hrow⟩ := (HLs2.out.below hbs) s (by rw [HNm.out]; exact hls)
      obtain rfl : sa = _ := ha1
      obtain rfl : b = _ := ha2
      have hrl := HRow.out s hls
      have HRr := Lib.hid hrow
      have HNs2 : Hid (¬ (((ls.getD s []).length : Int) = F.sl.getD s 0 ∧ (ls.getD s []).all byB = true) → R = 1) := Lib.hid fun h => HBad.out (by trivial) fun h2 => h ((HIn.out.1 h2).2.2.2 s hls)
      have HSx : Hid ((((ls.getD s []).length : Int) = F.sl.getD s 0 ∧ (ls.getD s []).all byB = true) → ∀ m, m < s + 1 → ((ls.getD m []).length : Int) = F.sl.getD m 0 ∧ (ls.getD m []).all byB = true) := Lib.hid fun h m hm => by
        by_cases e : m = s
        · subst e; exact h
        · exact HS.out m (by omega)
      have HAy := Lib.hid (fun h => all_getD (p := byB) (l := ls.getD s []) h)
      have HAn := Lib.hid (fun k hk h => all_not (p := byB) (l := ls.getD s []) (k := k) hk h)
      have HC2 := Lib.hid c2
      clear hbs hrow
      generalize (ls.getD s []).all byB = ab at *
      generalize hrr : (ls.getD s []).length = rr at *
      have HRl := Lib.hid hrr; clear hrr
      generalize ls.getD s [] = row at *
      generalize F.sl.getD s 0 = y at *
      go_upto_region 14 with fail
      by_cases hy : (rr : Int) = y
      rotate_left
      · have q : ((rr : Int) != y) = true := bne_iff_ne.2 hy
        have HE := Lib.hid (fun W' (h : Below w.heap.size w W') => HPP.out 1 W' (HNs2.out (fun h => hy h.1)) h)
        clear hy
        go_quiet (fail)
        clear j1 d2 c1 c2
        go_wp2_with fail
        first | exact HE.out _ (below_drewN HBx.out _) | (go_ret; exact HE.out _ (below_drewN HBx.out _))
      have q : ((rr : Int) != y) = false := by simp [hy]
      have HY := Lib.hid hy
      clear hy
      go_quiet (fail)
      clear j1 d2 c1 c2
      have HBd := Lib.hid (below_drewN (Below.refl ws.heap.size ws) nq)
      have HBd2 := Lib.hid (below_drewN HBs.out nq)
      generalize ws.drewN nq = wd at *
      go_wp2_with fail
      go_loopw [8] (fun i wr => ∃ t : Nat, t ≤ rr ∧ i = .int .i64 t ∧ Hid (∀ m, m < t → byB (row.getD m 0) = true) ∧ wd = wr) (fun i _ => rr - (intOf i).toNat)
      case atStart => exact ⟨0, Nat.zero_le _, rfl, Lib.hid fun j hj => absurd hj (Nat.not_lt_zero _), rfl⟩
      case round =>
        obtain ⟨t, ht, rfl, HTt, rfl⟩ := hrel
        have j1 := keep HJ1.out HBd2.out
        have c2 := keep HC2.out HBd.out
        by_cases htr : t < rr
        rotate_left
        · obtain rfl : t = rr := by omega
          have hab := HAy.out (fun m hm => HTt.out m hm)
          have HSn := Lib.hid (HSx.out ⟨HY.out, hab⟩)
          clear hab
          go_wp2_with fail
          go_roundw
          case rel => exact ⟨s + 1, by omega, by go_num, HSn, HBd2.out⟩
          case measure => simp [intOf]; omega
        have hti : (t : Int) < (rr : Int) := by omega
        obtain ⟨b3, o3, rfl, c3⟩ := (HRr.out.below HBd.out) t (by rw [HRl.out]; exact htr)
        have HBn : Hid (byB (row.getD t 0) = false → R = 1) := Lib.hid fun h => HNs2.out fun h2 => by
          have := HAn.out t htr h
          rw [this] at h2; cases h2.2
        have HTx : Hid (byB (row.getD t 0) = true → ∀ m, m < t + 1 → byB (row.getD m 0) = true) := Lib.hid fun h m hm => by
          by_cases e : m = t
          · subst e; exact h
          · exact HTt.out m (by omega)
        have HByy : Hid (byB (row.getD t 0) = decide (-1 ≤ row.getD t 0 ∧ row.getD t 0 ≤ 255)) := Lib.hid rfl
        generalize row.getD t 0 = z at *
        generalize byB z = bz at *
        have HBWd := Lib.hid (HBw.out.trans (HBd2.out.mono HBw.out.size))
        by_cases z1 : z < -1
        · have HE := Lib.hid (HPP.out 1 wd (HBn.out (HByy.out.trans (decide_eq_false (by omega)))) HBWd.out)
          go_wp2_with fail
          first | exact HE.out | (go_ret; exact HE.out)
        by_cases z2 : 255 < z
        · have HE := Lib.hid (HPP.out 1 wd (HBn.out (HByy.out.trans (decide_eq_false (by omega)))) HBWd.out)
          go_wp2_with fail
          first | exact HE.out | (go_ret; exact HE.out)
        have HTn := Lib.hid (HTx.out (HByy.out.trans (decide_eq_true (by omega))))
        go_wp2_with fail
        go_roundw
        case rel => exact ⟨t + 1, by omega, by go_num, HTn, by trivial⟩
        case measure => simp [intOf]; omega
end Go.Proofs.YtpdbokbmchlgpaaGreat.PK
