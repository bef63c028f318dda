/- The model's == and != at places; the walk of Same. -/
import Derived.Test.YtmhneonebjcieaaW5
import Derived.Laws.StructEq
import Derived.Shelf.SlicesE.Kit
namespace Go.Proofs.Ytmhneonebjcieaa
open Go.RowKit Go.Shelf

theorem eqP_run (p q : Pl) (w : World) : (Op.equalIn 10000 38 (.agg #[.int .i64 p.fr, .int .i64 p.to, .int .i64 p.va, .int .i64 p.ki, .int .i64 p.nn]) (.agg #[.int .i64 q.fr, .int .i64 q.to, .int .i64 q.va, .int .i64 q.ki, .int .i64 q.nn])).run Try.prog w = .ok (decide (p = q)) w := by
  have u3 := Try.underlying3
  have a3 := Try.isAgg3
  have z3 := Try.sizeOf3
  have hS : Try.prog.underlying 38 = some (.struct (Try.prog.fieldsOf 38)) := by kernel_rfl
  have hp : Try.prog.stoodInHeld 38 = false := by kernel_rfl
  obtain ⟨x0, x1, x2, x3, x4⟩ := p
  obtain ⟨y0, y1, y2, y3, y4⟩ := q
  have hd : decide ((⟨x0, x1, x2, x3, x4⟩ : Pl) = ⟨y0, y1, y2, y3, y4⟩) = (decide (x0 = y0) && (decide (x1 = y1) && (decide (x2 = y2) && (decide (x3 = y3) && decide (x4 = y4))))) := by
    rw [Bool.eq_iff_iff]
    simp only [Bool.and_eq_true, decide_eq_true_iff, Pl.mk.injEq]
  rw [hd, show (10000 : Nat) = 9999 + 1 from rfl, run_equalIn_agg w 9999 38 _ _ hS hp]
  simp only [Program.fieldsOf, Try.underlying38]
  go_simp
  by_cases h0 : x0 = y0 <;> by_cases h1 : x1 = y1 <;> by_cases h2 : x2 = y2 <;> by_cases h3 : x3 = y3 <;> by_cases h4 : x4 = y4 <;> simp [h0, h1, h2, h3, h4]
theorem neqP_run (p q : Pl) (w : World) : (binOp .neq 38 (.agg #[.int .i64 p.fr, .int .i64 p.to, .int .i64 p.va, .int .i64 p.ki, .int .i64 p.nn]) (.agg #[.int .i64 q.fr, .int .i64 q.to, .int .i64 q.va, .int .i64 q.ki, .int .i64 q.nn])).run Try.prog w = .ok (.bool (!decide (p = q))) w := by
  rw [run_neq_struct, eqP_run]; rfl
theorem guardP (op : BinOp) (a b : Operand) (p q : Pl) (w : World) : (eqGuard op 38 a b (.agg #[.int .i64 p.fr, .int .i64 p.to, .int .i64 p.va, .int .i64 p.ki, .int .i64 p.nn]) (.agg #[.int .i64 q.fr, .int .i64 q.to, .int .i64 q.va, .int .i64 q.ki, .int .i64 q.nn])).run Try.prog w = .ok () w :=
  run_eqGuard_agg w op 38 a b _ _ (by kernel_rfl)
theorem list_ne {l m : List Pl} {k : Nat} (h : at' l k ≠ at' m k) : l ≠ m := fun e => h (by rw [e])
theorem list_eq {l m : List Pl} (hl : l.length = m.length) (h : ∀ k, k < l.length → at' l k = at' m k) : l = m := by
  apply List.ext_getElem hl
  intro i h1 h2
  have := h i h1
  unfold at' at this
  rw [List.getD_eq_getElem?_getD, List.getD_eq_getElem?_getD, List.getElem?_eq_getElem h1, List.getElem?_eq_getElem h2] at this
  exact this
set_option maxRecDepth 100000 in
set_option maxHeartbeats 2000000 in
theorem same_any (l m : List Pl) (a a' : Option Addr) (cap cap' : Nat) (w : World) (hin : PlsIn w a l) (hin' : PlsIn w a' m) (hl : l.length ≤ 1000) :
    Calls Try.prog 18 #[.slice a l.length cap, .slice a' m.length cap'] w fun e w' => e = .returned (.bool (decide (l = m))) ∧ Below w.heap.size w w' := by
  have HI := Lib.hid hin; have HI' := Lib.hid hin'
  clear hin hin'
  by_cases hlen : l.length = m.length
  rotate_left
  · have hR : decide (l = m) = false := decide_eq_false fun e => hlen (by rw [e])
    have hn : ((l.length : Int) != (m.length : Int)) = true := by rw [bne_iff_ne]; omega
    rw [hR]
    clear hR
    go_enter Try.func18, Try.ntmps18
    go_wp2_with fail
    go_ret
    exact ⟨rfl, Below.refl _ _⟩
  have HNe : Hid (∀ k, at' l k ≠ at' m k → decide (l = m) = false) := Lib.hid fun k h => decide_eq_false (list_ne h)
  have HEq : Hid ((∀ k, k < l.length → at' l k = at' m k) → decide (l = m) = true) := Lib.hid fun h => decide_eq_true (list_eq hlen h)
  generalize decide (l = m) = R at *
  have hml : m.length = l.length := hlen.symm
  have HM := Lib.hid hml
  rw [hml]
  clear hlen hml
  have hn : ((l.length : Int) != (l.length : Int)) = false := by simp
  go_enter Try.func18, Try.ntmps18
  go_wp2_with fail
  go_loopw [5] (fun i wr => ∃ k : Nat, k ≤ l.length ∧ i = .int .i64 k ∧ (∀ j, j < k → at' l j = at' m j) ∧ Below w.heap.size w wr) (fun i _ => l.length - (intOf i).toNat)
  case atStart => exact ⟨0, Nat.zero_le _, rfl, fun j hj => absurd hj (Nat.not_lt_zero _), Below.refl _ _⟩
  case round =>
    obtain ⟨k, hk, rfl, hall, hb⟩ := hrel
    have HB := Lib.hid hb; have HAll := Lib.hid hall
    clear hall
    by_cases hlt : k < l.length
    · have hki : (k : Int) < l.length := by omega
      have hk0 : (0 : Int) ≤ (k : Int) := by omega
      obtain ⟨b1, o1, rfl, hc⟩ := HI.out.below hb k hlt
      obtain ⟨b2, o2, rfl, hd⟩ := HI'.out.below hb k (by rw [HM.out]; exact hlt)
      have hneq := neqP_run (at' l k) (at' m k)
      have hgd := fun op a b => guardP op a b (at' l k) (at' m k)
      have HNk := Lib.hid (HNe.out k)
      have HNx : Hid (at' l k = at' m k → ∀ j, j < k + 1 → at' l j = at' m j) := Lib.hid fun h j hj => by
        by_cases e : j = k
        · rw [e]; exact h
        · exact HAll.out j (by omega)
      clear hb
      generalize at' l k = x at *
      generalize at' m k = y at *
      obtain ⟨x0, x1, x2, x3, x4⟩ := x
      obtain ⟨y0, y1, y2, y3, y4⟩ := y
      obtain ⟨c0, c1, c2, c3, c4⟩ := hc
      obtain ⟨d0, d1, d2, d3, d4⟩ := hd
      simp only at c0 c1 c2 c3 c4 d0 d1 d2 d3 d4 hneq hgd
      by_cases hxy : (⟨x0, x1, x2, x3, x4⟩ : Pl) = ⟨y0, y1, y2, y3, y4⟩
      · rw [decide_eq_true hxy] at hneq
        have HN := Lib.hid (HNx.out hxy)
        clear hxy HNx HNk
        go_wp2_with fail
        go_quiet (fail)
        go_wp2_with fail
        go_roundw
        case rel => exact ⟨k + 1, by omega, by go_num, HN.out, HB.out.trans (below_drewN (Below.refl _ _) _)⟩
        case measure => simp [intOf]; omega
      · rw [decide_eq_false hxy] at hneq
        have hR := HNk.out hxy
        have HR := Lib.hid hR
        clear hxy HNx HNk hR
        go_wp2_with fail
        go_quiet (fail)
        go_wp2_with fail
        go_ret
        exact ⟨ret_bool HR.out.symm, HB.out.trans (below_drewN (Below.refl _ _) _)⟩
    · have HR := Lib.hid (HEq.out fun j hj => HAll.out j (by omega))
      have hki : ¬ (k : Int) < l.length := by omega
      clear hb
      go_wp2_with fail
      go_ret
      exact ⟨ret_bool HR.out.symm, HB.out⟩
end Go.Proofs.Ytmhneonebjcieaa
