/- Same at equal lists of instructions; the law TimeOrders. -/
import Derived.Test.YtccpjfppkahbmaaH3
import Derived.Laws.StructEq
import Derived.Shelf.SlicesE.Kit
namespace Go.Proofs.Ytccpjfppkahbmaa
open Go.RowKit PK

theorem eqC_run (p : Cd) (w : World) : (Op.equalIn 10000 42 (.agg #[.int .i64 p.op, .int .i64 p.d, .int .i64 p.a, .int .i64 p.b, .int .u32 p.im, .int .i64 p.to]) (.agg #[.int .i64 p.op, .int .i64 p.d, .int .i64 p.a, .int .i64 p.b, .int .u32 p.im, .int .i64 p.to])).run Try.prog w = .ok true w := by
  have u3 := Try.underlying3
  have a3 := Try.isAgg3
  have z3 := Try.sizeOf3
  have u4 := Try.underlying40
  have a4 := Try.isAgg40
  have z4 := Try.sizeOf40
  have hS : Try.prog.underlying 42 = some (.struct (Try.prog.fieldsOf 42)) := by kernel_rfl
  have hp : Try.prog.stoodInHeld 42 = false := by kernel_rfl
  obtain ⟨x0, x1, x2, x3, x4, x5⟩ := p
  rw [show (10000 : Nat) = 9999 + 1 from rfl, run_equalIn_agg w 9999 42 _ _ hS hp]
  simp only [Program.fieldsOf, Try.underlying42]
  go_simp
theorem neqC_run (p : Cd) (w : World) : (binOp .neq 42 (.agg #[.int .i64 p.op, .int .i64 p.d, .int .i64 p.a, .int .i64 p.b, .int .u32 p.im, .int .i64 p.to]) (.agg #[.int .i64 p.op, .int .i64 p.d, .int .i64 p.a, .int .i64 p.b, .int .u32 p.im, .int .i64 p.to])).run Try.prog w = .ok (.bool false) w := by
  rw [run_neq_struct, eqC_run]; rfl
theorem guardC (op : BinOp) (a b : Operand) (p q : Cd) (w : World) : (eqGuard op 42 a b (.agg #[.int .i64 p.op, .int .i64 p.d, .int .i64 p.a, .int .i64 p.b, .int .u32 p.im, .int .i64 p.to]) (.agg #[.int .i64 q.op, .int .i64 q.d, .int .i64 q.a, .int .i64 q.b, .int .u32 q.im, .int .i64 q.to])).run Try.prog w = .ok () w :=
  run_eqGuard_agg w op 42 a b _ _ (by kernel_rfl)
set_option maxRecDepth 100000 in
set_option maxHeartbeats 2000000 in
theorem sameC_self (l : List Cd) (a a' : Option Addr) (cap cap' : Nat) (w : World) (hin : CdsIn w a l) (hin' : CdsIn w a' l) (hl : l.length ≤ 1000) :
    Calls Try.prog 28 #[.slice a l.length cap, .slice a' l.length cap'] w fun e w' => e = .returned (.bool true) ∧ Below w.heap.size w w' := by
  have HI := Lib.hid hin; have HI' := Lib.hid hin'
  clear hin hin'
  have hn : ((l.length : Int) != (l.length : Int)) = false := by simp
  go_enter Try.func28, Try.ntmps28
  go_wp2_with fail
  go_loopw [5] (fun i wr => ∃ k : Nat, k ≤ l.length ∧ i = .int .i64 k ∧ Below w.heap.size w wr) (fun i _ => l.length - (intOf i).toNat)
  case atStart => exact ⟨0, Nat.zero_le _, rfl, Below.refl _ _⟩
  case round =>
    obtain ⟨k, hk, rfl, hb⟩ := hrel
    have HB := Lib.hid hb
    by_cases hlt : k < l.length
    · have hki : (k : Int) < l.length := by omega
      have hk0 : (0 : Int) ≤ (k : Int) := by omega
      obtain ⟨b1, o1, rfl, hc⟩ := HI.out.below hb k hlt
      obtain ⟨b2, o2, rfl, hd⟩ := HI'.out.below hb k hlt
      have hneq := neqC_run (atC l k)
      have hgd := fun op a b => guardC op a b (atC l k) (atC l k)
      clear hb
      generalize atC l k = x at *
      obtain ⟨x0, x1, x2, x3, x4, x5⟩ := x
      obtain ⟨c0, c1, c2, c3, c4, c5⟩ := hc
      obtain ⟨d0, d1, d2, d3, d4, d5⟩ := hd
      simp only at c0 c1 c2 c3 c4 c5 d0 d1 d2 d3 d4 d5 hneq hgd
      go_wp2_with fail
      go_quiet (fail)
      go_wp2_with fail
      go_roundw
      case rel => exact ⟨k + 1, by omega, by go_num, HB.out.trans (below_drewN (Below.refl _ _) _)⟩
      case measure => simp [intOf]; omega
    · have hki : ¬ (k : Int) < l.length := by omega
      clear hb
      go_wp2_with fail
      go_ret
      exact ⟨rfl, HB.out⟩
theorem appL_len (l : List Cd) (order : List Int) : (appL l order).length ≤ 40 := by
  unfold appL
  split
  · rename_i h
    obtain ⟨h1, _⟩ := appE_zero h
    obtain ⟨h2, hp⟩ := ordE_zero h1
    have h40 := (tErr_zero h2).1
    rw [applyL_len, hp.1]
    exact h40
  · exact Nat.zero_le _
set_option maxRecDepth 100000 in
set_option maxHeartbeats 2000000 in
theorem timeOrders_any (l : List Cd) (a : Option Addr) (cap : Nat) (order : List Int) (oa : Option Addr) (ocap : Nat) (w : World) (hin : CdsIn w a l) (hlc : l.length ≤ cap) (ho : IntsIn w oa order) (hoc : order.length ≤ ocap) :
    Calls Try.prog 5 #[.slice a l.length cap, .slice oa order.length ocap] w fun e w' => e = .returned (.bool true) ∧ Below w.heap.size w w' := by
  have HK := Lib.hid known_any
  have HLo := Lib.hid (long_any l.length cap a w)
  by_cases h100 : (100 : Int) < (l.length : Int)
  · rw [decide_eq_true h100] at HLo
    clear hin h100 hlc ho hoc
    generalize l.length = n at *
    generalize order.length = on at *
    go_enter Try.func5, Try.ntmps5
    go_wp2_with fail
    refine HLo.out.mono ?_; rintro e w1 ⟨rfl, rfl⟩
    go_wp2_with fail
    refine (HK.out _).mono ?_; rintro e w2 ⟨rfl, hb2⟩
    go_wp2_with fail
    go_ret
    exact ⟨rfl, hb2⟩
  rw [decide_eq_false h100] at HLo
  by_cases h200 : (200 : Int) < (order.length : Int)
  · clear hin h100 hlc ho hoc
    generalize l.length = n at *
    generalize order.length = on at *
    go_enter Try.func5, Try.ntmps5
    go_wp2_with fail
    refine HLo.out.mono ?_; rintro e w1 ⟨rfl, rfl⟩
    go_wp2_with fail
    refine (HK.out _).mono ?_; rintro e w2 ⟨rfl, hb2⟩
    go_wp2_with fail
    go_ret
    exact ⟨rfl, hb2⟩
  have hl : l.length ≤ 1099511627776 := by omega
  have hol : order.length ≤ 100000 := by omega
  have H1 := Lib.hid (fun (w' : World) (hb : Below w.heap.size w w') => IsOrder_any l a cap order oa ocap w' (hin.below hb) hlc hl (ho.below hb) hol)
  have H2 := Lib.hid (fun (w' : World) (hb : Below w.heap.size w w') => rIsOrder_all l a cap order oa ocap w' (hin.below hb) hl (ho.below hb) hoc hol)
  have H3 := Lib.hid (fun (w' : World) (hb : Below w.heap.size w w') => Apply_any l a cap order oa ocap w' (hin.below hb) hlc hl (ho.below hb) hol)
  have H4 := Lib.hid (fun (w' : World) (hb : Below w.heap.size w w') => rApply_all l a cap order oa ocap w' (hin.below hb) hl (ho.below hb) hoc hol)
  have hal := appL_len l order
  have H9 := Lib.hid (fun p q c1 c2 w' h1 h2 => sameC_self (appL l order) p q c1 c2 w' h1 h2 (by omega))
  clear hin ho hlc hol hoc hl hal
  unfold IsOrdPost at H1 H2
  unfold ApplyPost at H3 H4
  generalize appL l order = M at *
  generalize appE l order = ae at *
  generalize isB l order = ib at *
  generalize ordE l order = oe at *
  generalize l.length = n at *
  generalize order.length = on at *
  generalize hmn : M.length = mn at *
  clear hmn
  go_enter Try.func5, Try.ntmps5
  go_wp2_with fail
  refine HLo.out.mono ?_; rintro e w1 ⟨rfl, rfl⟩
  clear HLo
  go_wp2_with fail
  refine (H1.out _ (Below.refl _ _)).mono ?_; rintro e w1 ⟨rfl, hb1⟩
  have HB1 := Lib.hid hb1
  clear hb1 H1
  go_wp2_with fail
  refine (H2.out _ HB1.out).mono ?_; rintro e w2 ⟨rfl, hb2⟩
  have HB2 := Lib.hid (HB1.out.trans (hb2.mono HB1.out.size))
  clear hb2 H2
  go_wp2_with fail
  refine (H3.out _ HB2.out).mono ?_; rintro e w3 ⟨⟨ra, rc, rfl, hr3, hrc⟩, hb3⟩
  have HB3 := Lib.hid (HB2.out.trans (hb3.mono HB2.out.size))
  have HR3 := Lib.hid hr3
  clear hb3 hr3 H3 hrc
  go_wp2_with fail
  refine (H4.out _ HB3.out).mono ?_; rintro e w4 ⟨⟨rb, rd, rfl, hr4, hrd⟩, hb4⟩
  have HB4 := Lib.hid (HB3.out.trans (hb4.mono HB3.out.size))
  have HR3 := Lib.hid (HR3.out.below hb4)
  have HR4 := Lib.hid hr4
  clear hb4 hr4 H4 hrd
  go_wp2_with fail
  refine (H9.out _ _ _ _ _ HR3.out HR4.out).mono ?_; rintro e w7 ⟨rfl, hb7⟩
  have HB7 := Lib.hid (HB4.out.trans (hb7.mono HB4.out.size))
  clear hb7
  go_wp2_with fail
  refine (HK.out _).mono ?_; rintro e w8 ⟨rfl, hb8⟩
  have HB8 := Lib.hid (HB7.out.trans (hb8.mono HB7.out.size))
  clear hb8
  go_wp2_with fail
  go_ret
  exact ⟨rfl, HB8.out⟩
end Go.Proofs.Ytccpjfppkahbmaa
