/- One instruction of the machine, for each kind. -/
import Derived.Test.YtjfpaelmcepidaaMF
namespace Go.Proofs.Ytjfpaelmcepidaa.PK
open Go.RowKit

theorem fM_no {op : Int} (h : op < 18 ∨ 23 < op) : fM op = false := by unfold fM; rw [decide_eq_false_iff_not]; omega
theorem fM_yes {op : Int} (h : 18 ≤ op ∧ op ≤ 23) : fM op = true := by unfold fM; rw [decide_eq_true_eq]; exact h
theorem step_li {s : Mach} {x : Cd} {fr to : Int} {n : Nat} (h : x.op = 0) : stepM s x fr to n = .on (putR s x.d x.im) := by
  unfold stepM; rw [fM_no (by omega), if_neg (by decide), if_pos h]
theorem step_mv {s : Mach} {x : Cd} {fr to : Int} {n : Nat} (h : x.op = 1) : stepM s x fr to n = .on (putR s x.d (opA s x)) := by
  unfold stepM; rw [fM_no (by omega), if_neg (by decide), if_neg (by omega), if_pos h]
theorem step_brk {s : Mach} {x : Cd} {fr to : Int} {n : Nat} (h : 2 ≤ x.op ∧ x.op ≤ 17) (hb : brkF x.op (opA s x) (opB s x) = true) : stepM s x fr to n = .out s.mem 5 n s.tch := by
  unfold stepM; rw [fM_no (by omega), if_neg (by decide), if_neg (by omega), if_neg (by omega), if_pos h.2, if_pos hb]
theorem step_op {s : Mach} {x : Cd} {fr to : Int} {n : Nat} (h : 2 ≤ x.op ∧ x.op ≤ 17) (hb : brkF x.op (opA s x) (opB s x) = false) : stepM s x fr to n = .on (putR s x.d (resF x.op (opA s x) (opB s x))) := by
  unfold stepM; rw [fM_no (by omega), if_neg (by decide), if_neg (by omega), if_neg (by omega), if_pos h.2, if_neg (by rw [hb]; decide)]
theorem step_flt {s : Mach} {x : Cd} {fr to : Int} {n : Nat} (h : 18 ≤ x.op ∧ x.op ≤ 23) (hf : s.mem.length < plc s x + nB x.op) : stepM s x fr to n = .out s.mem 3 n (tchB s x fr to) := by
  unfold stepM; rw [fM_yes h, if_pos rfl, if_pos hf]
theorem step_ld {s : Mach} {x : Cd} {fr to : Int} {n : Nat} (h : 18 ≤ x.op ∧ x.op ≤ 20) (hf : ¬ s.mem.length < plc s x + nB x.op) : stepM s x fr to n = .on { s with rg := s.rg.set x.d.toNat (rdF s.mem (plc s x) (nB x.op)), pc := s.pc + 1, tch := tchB s x fr to } := by
  unfold stepM; rw [fM_yes (by omega), if_pos rfl, if_neg hf, if_neg (by omega)]
theorem step_st {s : Mach} {x : Cd} {fr to : Int} {n : Nat} (h : 21 ≤ x.op ∧ x.op ≤ 23) (hf : ¬ s.mem.length < plc s x + nB x.op) : stepM s x fr to n = .on { s with mem := wrF s.mem (plc s x) (nB x.op) (opB s x), pc := s.pc + 1, tch := tchB s x fr to } := by
  unfold stepM; rw [fM_yes (by omega), if_pos rfl, if_neg hf, if_pos h.1]
theorem step_jmp {s : Mach} {x : Cd} {fr to : Int} {n : Nat} (h : x.op = 24) : stepM s x fr to n = .on { s with blk := x.to.toNat, pc := 0 } := by
  unfold stepM; rw [fM_no (by omega), if_neg (by decide), if_neg (by omega), if_neg (by omega), if_neg (by omega), if_pos (.inl h)]
theorem step_bnz {s : Mach} {x : Cd} {fr to : Int} {n : Nat} (h : x.op = 25) (ha : opA s x ≠ 0) : stepM s x fr to n = .on { s with blk := x.to.toNat, pc := 0 } := by
  unfold stepM; rw [fM_no (by omega), if_neg (by decide), if_neg (by omega), if_neg (by omega), if_neg (by omega), if_pos (.inr ⟨h, ha⟩)]
theorem step_bz {s : Mach} {x : Cd} {fr to : Int} {n : Nat} (h : x.op = 25) (ha : opA s x = 0) : stepM s x fr to n = .on { s with pc := s.pc + 1 } := by
  unfold stepM; rw [fM_no (by omega), if_neg (by decide), if_neg (by omega), if_neg (by omega), if_neg (by omega), if_neg (by omega), if_neg (by omega), if_neg (by omega)]
theorem step_halt {s : Mach} {x : Cd} {fr to : Int} {n : Nat} (h : x.op = 26) : stepM s x fr to n = .out s.mem 1 (n + 1) s.tch := by
  unfold stepM; rw [fM_no (by omega), if_neg (by decide), if_neg (by omega), if_neg (by omega), if_neg (by omega), if_neg (by omega), if_pos h]
theorem step_stop {s : Mach} {x : Cd} {fr to : Int} {n : Nat} (h : x.op = 27) : stepM s x fr to n = .out s.mem 2 (n + 1) s.tch := by
  unfold stepM; rw [fM_no (by omega), if_neg (by decide), if_neg (by omega), if_neg (by omega), if_neg (by omega), if_neg (by omega), if_neg (by omega), if_pos h]
theorem blk_len {regs : Int} {ls : List (List Cd)} (h : ¬ tooBig regs ls) {k : Nat} (hk : k < ls.length) : (atB ls k).length ≤ 400 := by
  have h1 := sumL_take hk
  have h2 : sumL (ls.take (k + 1)) ≤ sumL ls := by
    have e : ls = ls.take (k + 1) ++ ls.drop (k + 1) := (List.take_append_drop _ _).symm
    conv => rhs; rw [e]
    rw [sumL_app]; omega
  unfold tooBig at h
  omega
theorem opA_at {s : Mach} {x : Cd} {na : Nat} (h : fA x.op = true) (ha : x.a = (na : Int)) : opA s x = s.rg.getD na 0 := by
  unfold opA; rw [if_pos ⟨h, by omega⟩, ha, Int.toNat_natCast]
theorem opA_none {s : Mach} {x : Cd} (h : x.a < 0) : opA s x = 0 := by
  unfold opA; rw [if_neg (fun c => by have := c.2; omega)]
theorem opA_no {s : Mach} {x : Cd} (h : fA x.op = false) : opA s x = 0 := by
  unfold opA; rw [if_neg (fun c => by rw [h] at c; exact absurd c.1 (by decide))]
theorem opB_at {s : Mach} {x : Cd} {nb : Nat} (h : fB x.op = true) (hb : x.b = (nb : Int)) : opB s x = s.rg.getD nb 0 := by
  unfold opB; rw [if_pos h, hb, Int.toNat_natCast]
theorem opB_no {s : Mach} {x : Cd} (h : fB x.op = false) : opB s x = 0 := by
  unfold opB; rw [if_neg (by rw [h]; decide)]
theorem last_no {op : Int} (h : op ≠ 24) (h2 : op ≠ 26) (h3 : op ≠ 27) : isLastB op = false := by
  unfold isLastB; rw [decide_eq_false_iff_not]; omega
end Go.Proofs.Ytjfpaelmcepidaa.PK
