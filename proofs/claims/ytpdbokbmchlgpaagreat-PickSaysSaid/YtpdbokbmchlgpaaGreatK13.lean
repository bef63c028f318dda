/- Packed of several texts. -/
import Derived.Test.YtpdbokbmchlgpaaGreatK04
import Derived.Test.YtpdbokbmchlgpaaGreatK00
import Derived.Test.YtpdbokbmchlgpaaGreatK08
namespace Go.Proofs.YtpdbokbmchlgpaaGreat.PK
open Go.RowKit

set_option maxHeartbeats 4000000 in
theorem classOf_any (op : Int) (w : World) : Calls Tryz.prog 131 #[.int .i64 op] w fun e w' => e = .returned (.int .i64 (clsI op)) ∧ w = w' := by
  have HR : Hid (∀ v, v = clsI op → Ending.returned (.int .i64 v) = .returned (.int .i64 (clsI op))) := Lib.hid (fun v h => by rw [h])
  generalize hs : clsI op = r at *
  have HS := Lib.hid hs; clear hs
  by_cases h : op < 0
  · go_enter Tryz.func131, Tryz.ntmps131
    go_wp2_with fail
    go_ret
    exact ⟨HR.out _ (by rw [← HS.out]; unfold clsI; (repeat' split) <;> omega), rfl⟩
  by_cases h : 1 ≤ op ∧ op ≤ 13
  · obtain ⟨h1, h2⟩ := h
    go_enter Tryz.func131, Tryz.ntmps131
    go_wp2_with fail
    go_ret
    exact ⟨HR.out _ (by rw [← HS.out]; unfold clsI; (repeat' split) <;> omega), rfl⟩
  by_cases h : 32 < op
  · go_enter Tryz.func131, Tryz.ntmps131
    go_wp2_with fail
    go_ret
    exact ⟨HR.out _ (by rw [← HS.out]; unfold clsI; (repeat' split) <;> omega), rfl⟩
  by_cases h : op = 0
  · subst h
    go_enter Tryz.func131, Tryz.ntmps131
    go_wp2_with fail
    go_ret
    exact ⟨HR.out _ (by rw [← HS.out]; unfold clsI; rfl), rfl⟩
  by_cases h : op = 14
  · subst h
    go_enter Tryz.func131, Tryz.ntmps131
    go_wp2_with fail
    go_ret
    exact ⟨HR.out _ (by rw [← HS.out]; unfold clsI; rfl), rfl⟩
  by_cases h : op = 15
  · subst h
    go_enter Tryz.func131, Tryz.ntmps131
    go_wp2_with fail
    go_ret
    exact ⟨HR.out _ (by rw [← HS.out]; unfold clsI; rfl), rfl⟩
  by_cases h : op = 16
  · subst h
    go_enter Tryz.func131, Tryz.ntmps131
    go_wp2_with fail
    go_ret
    exact ⟨HR.out _ (by rw [← HS.out]; unfold clsI; rfl), rfl⟩
  by_cases h : op = 17
  · subst h
    go_enter Tryz.func131, Tryz.ntmps131
    go_wp2_with fail
    go_ret
    exact ⟨HR.out _ (by rw [← HS.out]; unfold clsI; rfl), rfl⟩
  by_cases h : op = 18
  · subst h
    go_enter Tryz.func131, Tryz.ntmps131
    go_wp2_with fail
    go_ret
    exact ⟨HR.out _ (by rw [← HS.out]; unfold clsI; rfl), rfl⟩
  by_cases h : op = 19
  · subst h
    go_enter Tryz.func131, Tryz.ntmps131
    go_wp2_with fail
    go_ret
    exact ⟨HR.out _ (by rw [← HS.out]; unfold clsI; rfl), rfl⟩
  by_cases h : op = 20
  · subst h
    go_enter Tryz.func131, Tryz.ntmps131
    go_wp2_with fail
    go_ret
    exact ⟨HR.out _ (by rw [← HS.out]; unfold clsI; rfl), rfl⟩
  by_cases h : op = 21
  · subst h
    go_enter Tryz.func131, Tryz.ntmps131
    go_wp2_with fail
    go_ret
    exact ⟨HR.out _ (by rw [← HS.out]; unfold clsI; rfl), rfl⟩
  by_cases h : op = 22
  · subst h
    go_enter Tryz.func131, Tryz.ntmps131
    go_wp2_with fail
    go_ret
    exact ⟨HR.out _ (by rw [← HS.out]; unfold clsI; rfl), rfl⟩
  by_cases h : op = 23
  · subst h
    go_enter Tryz.func131, Tryz.ntmps131
    go_wp2_with fail
    go_ret
    exact ⟨HR.out _ (by rw [← HS.out]; unfold clsI; rfl), rfl⟩
  by_cases h : op = 24
  · subst h
    go_enter Tryz.func131, Tryz.ntmps131
    go_wp2_with fail
    go_ret
    exact ⟨HR.out _ (by rw [← HS.out]; unfold clsI; rfl), rfl⟩
  by_cases h : op = 25
  · subst h
    go_enter Tryz.func131, Tryz.ntmps131
    go_wp2_with fail
    go_ret
    exact ⟨HR.out _ (by rw [← HS.out]; unfold clsI; rfl), rfl⟩
  by_cases h : op = 26
  · subst h
    go_enter Tryz.func131, Tryz.ntmps131
    go_wp2_with fail
    go_ret
    exact ⟨HR.out _ (by rw [← HS.out]; unfold clsI; rfl), rfl⟩
  by_cases h : op = 27
  · subst h
    go_enter Tryz.func131, Tryz.ntmps131
    go_wp2_with fail
    go_ret
    exact ⟨HR.out _ (by rw [← HS.out]; unfold clsI; rfl), rfl⟩
  by_cases h : op = 28
  · subst h
    go_enter Tryz.func131, Tryz.ntmps131
    go_wp2_with fail
    go_ret
    exact ⟨HR.out _ (by rw [← HS.out]; unfold clsI; rfl), rfl⟩
  by_cases h : op = 29
  · subst h
    go_enter Tryz.func131, Tryz.ntmps131
    go_wp2_with fail
    go_ret
    exact ⟨HR.out _ (by rw [← HS.out]; unfold clsI; rfl), rfl⟩
  by_cases h : op = 30
  · subst h
    go_enter Tryz.func131, Tryz.ntmps131
    go_wp2_with fail
    go_ret
    exact ⟨HR.out _ (by rw [← HS.out]; unfold clsI; rfl), rfl⟩
  by_cases h : op = 31
  · subst h
    go_enter Tryz.func131, Tryz.ntmps131
    go_wp2_with fail
    go_ret
    exact ⟨HR.out _ (by rw [← HS.out]; unfold clsI; rfl), rfl⟩
  by_cases h : op = 32
  · subst h
    go_enter Tryz.func131, Tryz.ntmps131
    go_wp2_with fail
    go_ret
    exact ⟨HR.out _ (by rw [← HS.out]; unfold clsI; rfl), rfl⟩
  exfalso
  omega
set_option maxHeartbeats 4000000 in
theorem flagsOf_any (op : Int) (w : World) : Calls Tryz.prog 124 #[.int .i64 op] w fun e w' => e = .returned (.int .i64 (flgI op)) ∧ w = w' := by
  have HR : Hid (∀ v, v = flgI op → Ending.returned (.int .i64 v) = .returned (.int .i64 (flgI op))) := Lib.hid (fun v h => by rw [h])
  generalize hs : flgI op = r at *
  have HS := Lib.hid hs; clear hs
  by_cases h : op < 1
  · go_enter Tryz.func124, Tryz.ntmps124
    go_wp2_with fail
    go_ret
    exact ⟨HR.out _ (by rw [← HS.out]; unfold flgI; (repeat' split) <;> omega), rfl⟩
  by_cases h : 25 < op
  · go_enter Tryz.func124, Tryz.ntmps124
    go_wp2_with fail
    go_ret
    exact ⟨HR.out _ (by rw [← HS.out]; unfold flgI; (repeat' split) <;> omega), rfl⟩
  by_cases h : op = 1
  · subst h
    go_enter Tryz.func124, Tryz.ntmps124
    go_wp2_with fail
    go_ret
    exact ⟨HR.out _ (by rw [← HS.out]; unfold flgI; rfl), rfl⟩
  by_cases h : op = 2
  · subst h
    go_enter Tryz.func124, Tryz.ntmps124
    go_wp2_with fail
    go_ret
    exact ⟨HR.out _ (by rw [← HS.out]; unfold flgI; rfl), rfl⟩
  by_cases h : op = 3
  · subst h
    go_enter Tryz.func124, Tryz.ntmps124
    go_wp2_with fail
    go_ret
    exact ⟨HR.out _ (by rw [← HS.out]; unfold flgI; rfl), rfl⟩
  by_cases h : op = 4
  · subst h
    go_enter Tryz.func124, Tryz.ntmps124
    go_wp2_with fail
    go_ret
    exact ⟨HR.out _ (by rw [← HS.out]; unfold flgI; rfl), rfl⟩
  by_cases h : op = 6
  · subst h
    go_enter Tryz.func124, Tryz.ntmps124
    go_wp2_with fail
    go_ret
    exact ⟨HR.out _ (by rw [← HS.out]; unfold flgI; rfl), rfl⟩
  by_cases h : op = 11
  · subst h
    go_enter Tryz.func124, Tryz.ntmps124
    go_wp2_with fail
    go_ret
    exact ⟨HR.out _ (by rw [← HS.out]; unfold flgI; rfl), rfl⟩
  by_cases h : op = 12
  · subst h
    go_enter Tryz.func124, Tryz.ntmps124
    go_wp2_with fail
    go_ret
    exact ⟨HR.out _ (by rw [← HS.out]; unfold flgI; rfl), rfl⟩
  by_cases h : op = 13
  · subst h
    go_enter Tryz.func124, Tryz.ntmps124
    go_wp2_with fail
    go_ret
    exact ⟨HR.out _ (by rw [← HS.out]; unfold flgI; rfl), rfl⟩
  by_cases h : op = 25
  · subst h
    go_enter Tryz.func124, Tryz.ntmps124
    go_wp2_with fail
    go_ret
    exact ⟨HR.out _ (by rw [← HS.out]; unfold flgI; rfl), rfl⟩
  by_cases h : op = 5
  · subst h
    go_enter Tryz.func124, Tryz.ntmps124
    go_wp2_with fail
    go_ret
    exact ⟨HR.out _ (by rw [← HS.out]; unfold flgI; rfl), rfl⟩
  by_cases h : 7 ≤ op ∧ op ≤ 10
  · obtain ⟨h1, h2⟩ := h
    go_enter Tryz.func124, Tryz.ntmps124
    go_wp2_with fail
    go_ret
    exact ⟨HR.out _ (by rw [← HS.out]; unfold flgI; (repeat' split) <;> omega), rfl⟩
  by_cases h : 14 ≤ op ∧ op ≤ 24
  · obtain ⟨h1, h2⟩ := h
    go_enter Tryz.func124, Tryz.ntmps124
    go_wp2_with fail
    go_ret
    exact ⟨HR.out _ (by rw [← HS.out]; unfold flgI; (repeat' split) <;> omega), rfl⟩
  exfalso
  omega
set_option maxHeartbeats 4000000 in
theorem isNumber_any (op : Int) (w : World) : Calls Tryz.prog 120 #[.int .i64 op] w fun e w' => e = .returned (.bool (isNum op)) ∧ w = w' := by
  have HR : Hid (∀ v, v = isNum op → Ending.returned (.bool v) = .returned (.bool (isNum op))) := Lib.hid (fun v h => by rw [h])
  generalize hs : isNum op = r at *
  have HS := Lib.hid hs; clear hs
  by_cases h : op < 1
  · go_enter Tryz.func120, Tryz.ntmps120
    go_wp2_with fail
    go_ret
    exact ⟨HR.out _ (by rw [← HS.out]; unfold isNum; simp; omega), rfl⟩
  by_cases h : 1 ≤ op ∧ op ≤ 32
  · obtain ⟨h1, h2⟩ := h
    go_enter Tryz.func120, Tryz.ntmps120
    go_wp2_with fail
    go_ret
    exact ⟨HR.out _ (by rw [← HS.out]; unfold isNum; simp; omega), rfl⟩
  by_cases h : 32 < op
  · go_enter Tryz.func120, Tryz.ntmps120
    go_wp2_with fail
    go_ret
    exact ⟨HR.out _ (by rw [← HS.out]; unfold isNum; simp; omega), rfl⟩
  exfalso
  omega
set_option maxHeartbeats 4000000 in
theorem isMemory_any (op : Int) (w : World) : Calls Tryz.prog 132 #[.int .i64 op] w fun e w' => e = .returned (.bool (isMm op)) ∧ w = w' := by
  have HR : Hid (∀ v, v = isMm op → Ending.returned (.bool v) = .returned (.bool (isMm op))) := Lib.hid (fun v h => by rw [h])
  generalize hs : isMm op = r at *
  have HS := Lib.hid hs; clear hs
  by_cases h : op = 8
  · subst h
    go_enter Tryz.func132, Tryz.ntmps132
    go_wp2_with fail
    go_ret
    exact ⟨HR.out _ (by rw [← HS.out]; unfold isMm; rfl), rfl⟩
  by_cases h : op = 16
  · subst h
    go_enter Tryz.func132, Tryz.ntmps132
    go_wp2_with fail
    go_ret
    exact ⟨HR.out _ (by rw [← HS.out]; unfold isMm; rfl), rfl⟩
  by_cases h : op = 32
  · subst h
    go_enter Tryz.func132, Tryz.ntmps132
    go_wp2_with fail
    go_ret
    exact ⟨HR.out _ (by rw [← HS.out]; unfold isMm; rfl), rfl⟩
  by_cases h : ¬ op = 8 ∧ ¬ op = 16 ∧ ¬ op = 32
  · obtain ⟨h1, h2, h3⟩ := h
    go_enter Tryz.func132, Tryz.ntmps132
    go_wp2_with fail
    go_ret
    exact ⟨HR.out _ (by rw [← HS.out]; unfold isMm; simp [h1, h2, h3]), rfl⟩
  exfalso
  omega
set_option maxHeartbeats 4000000 in
theorem isLastI_any (op : Int) (w : World) : Calls Tryz.prog 126 #[.int .i64 op] w fun e w' => e = .returned (.bool (isLst op)) ∧ w = w' := by
  have HR : Hid (∀ v, v = isLst op → Ending.returned (.bool v) = .returned (.bool (isLst op))) := Lib.hid (fun v h => by rw [h])
  generalize hs : isLst op = r at *
  have HS := Lib.hid hs; clear hs
  by_cases h : op < 29
  · go_enter Tryz.func126, Tryz.ntmps126
    go_wp2_with fail
    go_ret
    exact ⟨HR.out _ (by rw [← HS.out]; unfold isLst; simp; omega), rfl⟩
  by_cases h : 29 ≤ op ∧ op ≤ 32
  · obtain ⟨h1, h2⟩ := h
    go_enter Tryz.func126, Tryz.ntmps126
    go_wp2_with fail
    go_ret
    exact ⟨HR.out _ (by rw [← HS.out]; unfold isLst; simp; omega), rfl⟩
  by_cases h : 32 < op
  · go_enter Tryz.func126, Tryz.ntmps126
    go_wp2_with fail
    go_ret
    exact ⟨HR.out _ (by rw [← HS.out]; unfold isLst; simp; omega), rfl⟩
  exfalso
  omega
end Go.Proofs.YtpdbokbmchlgpaaGreat.PK
namespace Go.Proofs.YtpdbokbmchlgpaaGreat.PK
open Go.RowKit

theorem isNum_iff {n : Int} : isNum n = true ↔ 1 ≤ n ∧ n ≤ 32 := by simp [isNum]
/-- The greatest word. -/
def mxI (n : Int) : Int := 2 ^ n.toNat - 1
theorem powI_bd (n : Int) (h2 : n ≤ 32) : 1 ≤ (2 : Int) ^ n.toNat ∧ (2 : Int) ^ n.toNat ≤ 4294967296 := by
  have h : n.toNat ≤ 32 := by omega
  have h1 : 2 ^ n.toNat ≤ 2 ^ 32 := Nat.pow_le_pow_right (by decide) h
  have h0 : 0 < 2 ^ n.toNat := Nat.pow_pos (by decide)
  have e : ((2 ^ n.toNat : Nat) : Int) = (2 : Int) ^ n.toNat := by simp
  omega
theorem le_mxI {x : Nat} {n : Int} : (x : Int) ≤ mxI n ↔ x < 2 ^ n.toNat := by
  unfold mxI
  have e : ((2 ^ n.toNat : Nat) : Int) = (2 : Int) ^ n.toNat := by simp
  omega
theorem bWidth_any (n : Int) (w : World) : Calls Tryz.prog 114 #[.int .i64 n] w fun e w' => e = .returned (.bool (isNum n)) ∧ w = w' := by
  have HE : Hid (isNum n = (decide (1 ≤ n) && decide (n ≤ 32))) := Lib.hid (by unfold isNum; rw [Bool.eq_iff_iff]; simp)
  rw [HE.out]
  go_enter Tryz.func114, Tryz.ntmps114
  go_wp2
  · go_ret; exact ⟨by simp [*], rfl⟩
  · go_ret; exact ⟨by simp [*]; omega, rfl⟩
theorem wrapI_u64 (n : Int) (h0 : 0 ≤ n) (h1 : n ≤ 9007199254740992) : IntKind.u64.wrap n = n := by
  rw [IntKind.wrap_u64]; omega
theorem bmask_any (n : Int) (w : World) (h1 : 1 ≤ n) (h2 : n ≤ 32) : Calls Tryz.prog 115 #[.int .i64 n] w fun e w' => e = .returned (.int .u32 (mxI n)) ∧ w = w' := by
  have e : (IntKind.u64.wrap (IntKind.u64.wrap (2 ^ n.toNat) - 1) % 4294967296) = mxI n := by
    have := powI_bd n h2
    rw [wrapI_u64 (2 ^ n.toNat) (by omega) (by omega), wrapI_u64 _ (by omega) (by omega)]; unfold mxI; omega
  have E := Lib.hid e; clear e
  go_enter Tryz.func115, Tryz.ntmps115
  go_wp2
  go_ret
  exact ⟨by rw [← E.out]; rfl, rfl⟩
theorem Mask_any (n : Int) (w : World) : Calls Tryz.prog 52 #[.int .i64 n] w fun e w' => e = .returned (.tuple #[.int .u32 (if isNum n then mxI n else 0), .int .i64 (if isNum n then 0 else 1)]) ∧ w = w' := by
  cases h : isNum n
  · have HW := Lib.hid (bWidth_any n)
    rw [h] at HW
    simp only [Bool.false_eq_true, if_false]
    go_enter Tryz.func52, Tryz.ntmps52
    go_wp2_with (go_at_call 114; refine (HW.out _).mono ?_; rintro e w' ⟨rfl, rfl⟩)
    go_ret2
    exact ⟨rfl, rfl⟩
  · have h1 := isNum_iff.1 h
    have HW := Lib.hid (bWidth_any n)
    rw [h] at HW
    have HM := Lib.hid (fun w => bmask_any n w h1.1 h1.2)
    simp only [if_true]
    clear h h1
    generalize mxI n = m at *
    go_enter Tryz.func52, Tryz.ntmps52
    go_wp2_with (first | (go_at_call 114; refine (HW.out _).mono ?_; rintro e w' ⟨rfl, rfl⟩) | (go_at_call 115; refine (HM.out _).mono ?_; rintro e w' ⟨rfl, rfl⟩))
    go_ret2
    exact ⟨rfl, rfl⟩
end Go.Proofs.YtpdbokbmchlgpaaGreat.PK
namespace Go.Proofs.YtpdbokbmchlgpaaGreat.PK
open Go.RowKit

theorem isWordOf_any (n : Int) (m : Nat) (w : World) (hm : m < 4294967296) : Calls Tryz.prog 151 #[.int .i64 n, .int .u32 m] w fun e w' => e = .returned (.bool (isNum n && decide (m < 2 ^ n.toNat))) ∧ w' = w := by
  have HW := Lib.hid (risWidth_any n)
  have hm2 : (m : Int) < 4294967296 := by omega
  cases h : isNum n
  · rw [h] at HW
    rw [Bool.false_and]
    go_enter Tryz.func151, Tryz.ntmps151
    go_wp2_with fail
    refine (HW.out _).mono ?_; rintro e w2 ⟨rfl, rfl⟩
    go_wp2_with fail
    go_ret
    exact ⟨rfl, rfl⟩
  · have h1 := isNum_iff.1 h
    rw [h] at HW
    rw [Bool.true_and]
    have hpw := powI_bd n h1.2
    have HE : Hid (decide ((m : Int) < 2 ^ n.toNat) = decide (m < 2 ^ n.toNat)) := Lib.hid (by
      rw [decide_eq_decide]
      have e : ((2 ^ n.toNat : Nat) : Int) = (2 : Int) ^ n.toNat := by simp
      omega)
    have hn0 : 0 ≤ n := by omega
    have hn1 : n < 4294967296 := by omega
    obtain ⟨hn2, hn3⟩ := h1
    clear h
    rw [← HE.out]
    go_enter Tryz.func151, Tryz.ntmps151
    go_wp2_with fail
    refine (HW.out _).mono ?_; rintro e w2 ⟨rfl, rfl⟩
    go_wp2_with fail
    go_ret
    exact ⟨rfl, rfl⟩
/-- Flags and number are 0. -/
def plnB (x : Ins) : Bool := decide (x.fl = 0) && decide (x.im = 0)
theorem plain_any (x : Ins) (aa ta : Option Addr) (ca ct : Nat) (w : World) : Calls Tryz.prog 152 #[insV x aa ta ca ct] w fun e w' => e = .returned (.bool (plnB x)) ∧ Below w.heap.size w w' := by
  obtain ⟨op, wd, fl, ar, im, tt⟩ := x
  have hb : Below w.heap.size w (w.alloc (.cells #[.int .i64 op, .int .i64 wd, .int .i64 fl, .slice aa ar.length ca, .int .u32 im, .slice ta tt.length ct] 65)) := (Below.refl _ _).alloc (Nat.le_refl _) _
  have HB := Lib.hid hb
  clear hb
  simp only [insV]
  unfold plnB
  by_cases h1 : fl = 0
  · subst h1
    by_cases h2 : im = 0
    · subst h2
      go_enter Tryz.func152, Tryz.ntmps152
      go_wp2_with fail
      go_ret
      exact ⟨rfl, HB.out⟩
    · have e2 : ((im : Int) == 0) = false := by simp; omega
      have e3 : decide (im = 0) = false := decide_eq_false h2
      rw [e3]
      clear h2 e3
      go_enter Tryz.func152, Tryz.ntmps152
      go_wp2_with fail
      go_ret
      exact ⟨rfl, HB.out⟩
  · have e1 : (fl == 0) = false := by simp [h1]
    have e3 : decide (fl = 0) = false := decide_eq_false h1
    simp only [e3, Bool.false_and]
    clear h1 e3
    go_enter Tryz.func152, Tryz.ntmps152
    go_wp2_with fail
    go_ret
    exact ⟨rfl, HB.out⟩
set_option maxRecDepth 100000 in
set_option maxHeartbeats 4000000 in
theorem arith_any (x : Ins) (aa ta : Option Addr) (ca ct : Nat) (w : World) (ho : 1 ≤ x.op ∧ x.op ≤ 13) : Calls Tryz.prog 153 #[insV x aa ta ca ct] w fun e w' => e = .returned (.bool (flOk x.op x.fl)) ∧ Below w.heap.size w w' := by
  obtain ⟨op, wd, fl, ar, im, tt⟩ := x
  have hb : Below w.heap.size w (w.alloc (.cells #[.int .i64 op, .int .i64 wd, .int .i64 fl, .slice aa ar.length ca, .int .u32 im, .slice ta tt.length ct] 65)) := (Below.refl _ _).alloc (Nat.le_refl _) _
  have HB := Lib.hid hb
  clear hb
  simp only [insV] at ho ⊢
  have hcs : op = 1 ∨ op = 2 ∨ op = 3 ∨ op = 4 ∨ op = 5 ∨ op = 6 ∨ op = 7 ∨ op = 8 ∨ op = 9 ∨ op = 10 ∨ op = 11 ∨ op = 12 ∨ op = 13 := by omega
  clear ho
  rcases hcs with rfl | rfl | rfl | rfl | rfl | rfl | rfl | rfl | rfl | rfl | rfl | rfl | rfl
  · by_cases h1 : 0 ≤ fl
    · by_cases h2 : fl ≤ 3
      · skip
        have e : flOk 1 fl = true := by unfold flOk flgI; simp; omega
        rw [e]
        clear e
        go_enter Tryz.func153, Tryz.ntmps153
        go_wp2_with fail
        go_ret
        exact ⟨rfl, HB.out⟩
      · skip
        have e : flOk 1 fl = false := by unfold flOk flgI; simp; omega
        rw [e]
        clear e
        go_enter Tryz.func153, Tryz.ntmps153
        go_wp2_with fail
        go_ret
        exact ⟨rfl, HB.out⟩
    · skip
      have e : flOk 1 fl = false := by unfold flOk flgI; simp; omega
      rw [e]
      clear e
      go_enter Tryz.func153, Tryz.ntmps153
      go_wp2_with fail
      go_ret
      exact ⟨rfl, HB.out⟩
  · by_cases h1 : 0 ≤ fl
    · by_cases h2 : fl ≤ 3
      · skip
        have e : flOk 2 fl = true := by unfold flOk flgI; simp; omega
        rw [e]
        clear e
        go_enter Tryz.func153, Tryz.ntmps153
        go_wp2_with fail
        go_ret
        exact ⟨rfl, HB.out⟩
      · skip
        have e : flOk 2 fl = false := by unfold flOk flgI; simp; omega
        rw [e]
        clear e
        go_enter Tryz.func153, Tryz.ntmps153
        go_wp2_with fail
        go_ret
        exact ⟨rfl, HB.out⟩
    · skip
      have e : flOk 2 fl = false := by unfold flOk flgI; simp; omega
      rw [e]
      clear e
      go_enter Tryz.func153, Tryz.ntmps153
      go_wp2_with fail
      go_ret
      exact ⟨rfl, HB.out⟩
  · by_cases h1 : 0 ≤ fl
    · by_cases h2 : fl ≤ 3
      · skip
        have e : flOk 3 fl = true := by unfold flOk flgI; simp; omega
        rw [e]
        clear e
        go_enter Tryz.func153, Tryz.ntmps153
        go_wp2_with fail
        go_ret
        exact ⟨rfl, HB.out⟩
      · skip
        have e : flOk 3 fl = false := by unfold flOk flgI; simp; omega
        rw [e]
        clear e
        go_enter Tryz.func153, Tryz.ntmps153
        go_wp2_with fail
        go_ret
        exact ⟨rfl, HB.out⟩
    · skip
      have e : flOk 3 fl = false := by unfold flOk flgI; simp; omega
      rw [e]
      clear e
      go_enter Tryz.func153, Tryz.ntmps153
      go_wp2_with fail
      go_ret
      exact ⟨rfl, HB.out⟩
  · by_cases h1 : fl = 0
    · have b1 : (fl == 0) = true := by simp [h1]
      have e : flOk 4 fl = true := by unfold flOk flgI; simp; omega
      rw [e]
      clear e h1
      go_enter Tryz.func153, Tryz.ntmps153
      go_wp2_with fail
      go_ret
      exact ⟨rfl, HB.out⟩
    by_cases h2 : fl = 4
    · have b1 : (fl == 0) = false := by simp [h1]
      have b2 : (fl == 4) = true := by simp [h2]
      have e : flOk 4 fl = true := by unfold flOk flgI; simp; omega
      rw [e]
      clear e h1 h2
      go_enter Tryz.func153, Tryz.ntmps153
      go_wp2_with fail
      go_ret
      exact ⟨rfl, HB.out⟩
    · have b1 : (fl == 0) = false := by simp [h1]
      have b2 : (fl == 4) = false := by simp [h2]
      have e : flOk 4 fl = false := by unfold flOk flgI; simp; omega
      rw [e]
      clear e h1 h2
      go_enter Tryz.func153, Tryz.ntmps153
      go_wp2_with fail
      go_ret
      exact ⟨rfl, HB.out⟩
  · by_cases h1 : fl = 0
    · have b1 : (fl == 0) = true := by simp [h1]
      have e : flOk 5 fl = true := by unfold flOk flgI; simp; omega
      rw [e]
      clear e h1
      go_enter Tryz.func153, Tryz.ntmps153
      go_wp2_with fail
      go_ret
      exact ⟨rfl, HB.out⟩
    · have b1 : (fl == 0) = false := by simp [h1]
      have e : flOk 5 fl = false := by unfold flOk flgI; simp; omega
      rw [e]
      clear e h1
      go_enter Tryz.func153, Tryz.ntmps153
      go_wp2_with fail
      go_ret
      exact ⟨rfl, HB.out⟩
  · by_cases h1 : fl = 0
    · have b1 : (fl == 0) = true := by simp [h1]
      have e : flOk 6 fl = true := by unfold flOk flgI; simp; omega
      rw [e]
      clear e h1
      go_enter Tryz.func153, Tryz.ntmps153
      go_wp2_with fail
      go_ret
      exact ⟨rfl, HB.out⟩
    by_cases h2 : fl = 4
    · have b1 : (fl == 0) = false := by simp [h1]
      have b2 : (fl == 4) = true := by simp [h2]
      have e : flOk 6 fl = true := by unfold flOk flgI; simp; omega
      rw [e]
      clear e h1 h2
      go_enter Tryz.func153, Tryz.ntmps153
      go_wp2_with fail
      go_ret
      exact ⟨rfl, HB.out⟩
    · have b1 : (fl == 0) = false := by simp [h1]
      have b2 : (fl == 4) = false := by simp [h2]
      have e : flOk 6 fl = false := by unfold flOk flgI; simp; omega
      rw [e]
      clear e h1 h2
      go_enter Tryz.func153, Tryz.ntmps153
      go_wp2_with fail
      go_ret
      exact ⟨rfl, HB.out⟩
  · by_cases h1 : fl = 0
    · have b1 : (fl == 0) = true := by simp [h1]
      have e : flOk 7 fl = true := by unfold flOk flgI; simp; omega
      rw [e]
      clear e h1
      go_enter Tryz.func153, Tryz.ntmps153
      go_wp2_with fail
      go_ret
      exact ⟨rfl, HB.out⟩
    · have b1 : (fl == 0) = false := by simp [h1]
      have e : flOk 7 fl = false := by unfold flOk flgI; simp; omega
      rw [e]
      clear e h1
      go_enter Tryz.func153, Tryz.ntmps153
      go_wp2_with fail
      go_ret
      exact ⟨rfl, HB.out⟩
  · by_cases h1 : fl = 0
    · have b1 : (fl == 0) = true := by simp [h1]
      have e : flOk 8 fl = true := by unfold flOk flgI; simp; omega
      rw [e]
      clear e h1
      go_enter Tryz.func153, Tryz.ntmps153
      go_wp2_with fail
      go_ret
      exact ⟨rfl, HB.out⟩
    · have b1 : (fl == 0) = false := by simp [h1]
      have e : flOk 8 fl = false := by unfold flOk flgI; simp; omega
      rw [e]
      clear e h1
      go_enter Tryz.func153, Tryz.ntmps153
      go_wp2_with fail
      go_ret
      exact ⟨rfl, HB.out⟩
  · by_cases h1 : fl = 0
    · have b1 : (fl == 0) = true := by simp [h1]
      have e : flOk 9 fl = true := by unfold flOk flgI; simp; omega
      rw [e]
      clear e h1
      go_enter Tryz.func153, Tryz.ntmps153
      go_wp2_with fail
      go_ret
      exact ⟨rfl, HB.out⟩
    · have b1 : (fl == 0) = false := by simp [h1]
      have e : flOk 9 fl = false := by unfold flOk flgI; simp; omega
      rw [e]
      clear e h1
      go_enter Tryz.func153, Tryz.ntmps153
      go_wp2_with fail
      go_ret
      exact ⟨rfl, HB.out⟩
  · by_cases h1 : fl = 0
    · have b1 : (fl == 0) = true := by simp [h1]
      have e : flOk 10 fl = true := by unfold flOk flgI; simp; omega
      rw [e]
      clear e h1
      go_enter Tryz.func153, Tryz.ntmps153
      go_wp2_with fail
      go_ret
      exact ⟨rfl, HB.out⟩
    · have b1 : (fl == 0) = false := by simp [h1]
      have e : flOk 10 fl = false := by unfold flOk flgI; simp; omega
      rw [e]
      clear e h1
      go_enter Tryz.func153, Tryz.ntmps153
      go_wp2_with fail
      go_ret
      exact ⟨rfl, HB.out⟩
  · by_cases h1 : 0 ≤ fl
    · by_cases h2 : fl ≤ 3
      · skip
        have e : flOk 11 fl = true := by unfold flOk flgI; simp; omega
        rw [e]
        clear e
        go_enter Tryz.func153, Tryz.ntmps153
        go_wp2_with fail
        go_ret
        exact ⟨rfl, HB.out⟩
      · skip
        have e : flOk 11 fl = false := by unfold flOk flgI; simp; omega
        rw [e]
        clear e
        go_enter Tryz.func153, Tryz.ntmps153
        go_wp2_with fail
        go_ret
        exact ⟨rfl, HB.out⟩
    · skip
      have e : flOk 11 fl = false := by unfold flOk flgI; simp; omega
      rw [e]
      clear e
      go_enter Tryz.func153, Tryz.ntmps153
      go_wp2_with fail
      go_ret
      exact ⟨rfl, HB.out⟩
  · by_cases h1 : fl = 0
    · have b1 : (fl == 0) = true := by simp [h1]
      have e : flOk 12 fl = true := by unfold flOk flgI; simp; omega
      rw [e]
      clear e h1
      go_enter Tryz.func153, Tryz.ntmps153
      go_wp2_with fail
      go_ret
      exact ⟨rfl, HB.out⟩
    by_cases h2 : fl = 4
    · have b1 : (fl == 0) = false := by simp [h1]
      have b2 : (fl == 4) = true := by simp [h2]
      have e : flOk 12 fl = true := by unfold flOk flgI; simp; omega
      rw [e]
      clear e h1 h2
      go_enter Tryz.func153, Tryz.ntmps153
      go_wp2_with fail
      go_ret
      exact ⟨rfl, HB.out⟩
    · have b1 : (fl == 0) = false := by simp [h1]
      have b2 : (fl == 4) = false := by simp [h2]
      have e : flOk 12 fl = false := by unfold flOk flgI; simp; omega
      rw [e]
      clear e h1 h2
      go_enter Tryz.func153, Tryz.ntmps153
      go_wp2_with fail
      go_ret
      exact ⟨rfl, HB.out⟩
  · by_cases h1 : fl = 0
    · have b1 : (fl == 0) = true := by simp [h1]
      have e : flOk 13 fl = true := by unfold flOk flgI; simp; omega
      rw [e]
      clear e h1
      go_enter Tryz.func153, Tryz.ntmps153
      go_wp2_with fail
      go_ret
      exact ⟨rfl, HB.out⟩
    by_cases h2 : fl = 4
    · have b1 : (fl == 0) = false := by simp [h1]
      have b2 : (fl == 4) = true := by simp [h2]
      have e : flOk 13 fl = true := by unfold flOk flgI; simp; omega
      rw [e]
      clear e h1 h2
      go_enter Tryz.func153, Tryz.ntmps153
      go_wp2_with fail
      go_ret
      exact ⟨rfl, HB.out⟩
    · have b1 : (fl == 0) = false := by simp [h1]
      have b2 : (fl == 4) = false := by simp [h2]
      have e : flOk 13 fl = false := by unfold flOk flgI; simp; omega
      rw [e]
      clear e h1 h2
      go_enter Tryz.func153, Tryz.ntmps153
      go_wp2_with fail
      go_ret
      exact ⟨rfl, HB.out⟩
end Go.Proofs.YtpdbokbmchlgpaaGreat.PK
