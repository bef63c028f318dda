/- The walk of Value of the program. -/
import Derived.Test.YtmhneonebjcieaaFR
import Derived.Test.YtmhneonebjcieaaFF
import Derived.Deep.Cut
namespace Go.Proofs.Ytmhneonebjcieaa
open Go.RowKit

/-- The cells of a machine: 32 registers, the flags, where it is, its memory, its end. -/
structure MachV (C : Array Value) (R : Nat → Nat) (at0 : Nat) (a : Option Addr) (cap : Nat) (mem : List Nat) : Prop where
  size : C.size = 36
  reg : ∀ j, j < 32 → C[j]? = some (.int .u32 (R j : Nat))
  atc : C[33]? = some (.int .u32 (at0 : Nat))
  memc : C[34]? = some (.slice a mem.length cap)
  at1 : at0 < 4294967296
  regs : ∀ j, j < 32 → R j < 4294967296
  lenc : mem.length ≤ cap
  byte : ∀ x ∈ mem, x < 256
/-- The box of a machine. -/
structure MachAt (w : World) (q : Nat) (R : Nat → Nat) (at0 : Nat) (a : Option Addr) (cap : Nat) (mem : List Nat) : Prop where
  reg : ∀ j, j < 32 → w.cell? ⟨q, j, none⟩ = some (.int .u32 (R j : Nat))
  atc : w.cell? ⟨q, 33, none⟩ = some (.int .u32 (at0 : Nat))
  memc : w.cell? ⟨q, 34, none⟩ = some (.slice a mem.length cap)
theorem MachV.box {C : Array Value} {R : Nat → Nat} {at0 cap : Nat} {a : Option Addr} {mem : List Nat} (h : MachV C R at0 a cap mem) (w : World) : MachAt (w.alloc (.cells C 57)) w.heap.size R at0 a cap mem :=
  ⟨fun j hj => by rw [World.cell?_alloc_at _ _ _ _ rfl]; exact h.reg j hj, by rw [World.cell?_alloc_at _ _ _ _ rfl]; exact h.atc, by rw [World.cell?_alloc_at _ _ _ _ rfl]; exact h.memc⟩
theorem MachAt.keep {w w' : World} {q : Nat} {R : Nat → Nat} {at0 cap : Nat} {a : Option Addr} {mem : List Nat} (h : MachAt w q R at0 a cap mem) (hb : Below w.heap.size w w') : MachAt w' q R at0 a cap mem :=
  ⟨fun j hj => Ytmhneonebjcieaa.keep (h.reg j hj) hb, Ytmhneonebjcieaa.keep h.atc hb, Ytmhneonebjcieaa.keep h.memc hb⟩
/-- The word at an address of a memory. -/
def wordM (mem : List Nat) (n : Nat) : Nat := mem.getD n 0 + 256 * mem.getD (n + 1) 0 + 65536 * mem.getD (n + 2) 0 + 16777216 * mem.getD (n + 3) 0
def valN (l : List Pl) (v : Int) (R : Nat → Nat) (at0 : Nat) (mem : List Nat) : Nat :=
  if askedE l v [] = 0 && isFound l v at0 then
    if (foundP l v at0).ki = 0 then R (foundP l v at0).nn.toNat else if (foundP l v at0).ki = 2 then (foundP l v at0).nn.toNat else if (mem.length : Int) < (foundP l v at0).nn + 4 then 0 else wordM mem (foundP l v at0).nn.toNat
  else 0
def valB (l : List Pl) (v : Int) (at0 : Nat) (mem : List Nat) : Bool :=
  askedE l v [] = 0 && (isFound l v at0 && (decide ((foundP l v at0).ki = 0) || (decide ((foundP l v at0).ki = 2) || !decide ((mem.length : Int) < (foundP l v at0).nn + 4))))
def valR (l : List Pl) (v : Int) (at0 : Nat) (mem : List Nat) : Int :=
  if askedE l v [] ≠ 0 then askedE l v [] else if isFound l v at0 && (!decide ((foundP l v at0).ki = 0) && (!decide ((foundP l v at0).ki = 2) && decide ((mem.length : Int) < (foundP l v at0).nn + 4))) then 4 else 0
theorem found_spec' {l : List Pl} {v a : Int} (h : isFound l v a = true) : foundP l v a ∈ l := by
  unfold isFound at h
  obtain ⟨x, hx⟩ := Option.isSome_iff_exists.1 h
  unfold foundP
  rw [hx]
  exact List.mem_of_find?_eq_some hx
/-- What Value tells of the place that was found. -/
structure ValOf (l : List Pl) (v : Int) (R : Nat → Nat) (at0 : Nat) (mem : List Nat) (n : Nat) (b : Bool) (e : Int) : Prop where
  n : valN l v R at0 mem = n
  b : valB l v at0 mem = b
  e : valR l v at0 mem = e
theorem val_asked {l : List Pl} {v : Int} {R : Nat → Nat} {at0 : Nat} {mem : List Nat} (h : askedE l v [] ≠ 0) : ValOf l v R at0 mem 0 false (askedE l v []) :=
  ⟨by unfold valN; simp [h], by unfold valB; simp [h], by unfold valR; rw [if_pos h]⟩
theorem val_none {l : List Pl} {v : Int} {R : Nat → Nat} {at0 : Nat} {mem : List Nat} (h : askedE l v [] = 0) (hf : isFound l v at0 = false) : ValOf l v R at0 mem 0 false 0 :=
  ⟨by unfold valN; simp [hf], by unfold valB; simp [hf], by unfold valR; simp [h, hf]⟩
theorem val_reg {l : List Pl} {v : Int} {R : Nat → Nat} {at0 : Nat} {mem : List Nat} (h : askedE l v [] = 0) (hf : isFound l v at0 = true) (hk : (foundP l v at0).ki = 0) : ValOf l v R at0 mem (R (foundP l v at0).nn.toNat) true 0 :=
  ⟨by unfold valN; simp [h, hf, hk], by unfold valB; simp [h, hf, hk], by unfold valR; simp [h, hk]⟩
theorem val_const {l : List Pl} {v : Int} {R : Nat → Nat} {at0 : Nat} {mem : List Nat} (h : askedE l v [] = 0) (hf : isFound l v at0 = true) (hk : (foundP l v at0).ki = 2) : ValOf l v R at0 mem (foundP l v at0).nn.toNat true 0 :=
  ⟨by unfold valN; simp [h, hf, hk], by unfold valB; simp [h, hf, hk], by unfold valR; simp [h, hk]⟩
theorem val_far {l : List Pl} {v : Int} {R : Nat → Nat} {at0 : Nat} {mem : List Nat} (h : askedE l v [] = 0) (hf : isFound l v at0 = true) (hk : (foundP l v at0).ki = 1) (hm : (mem.length : Int) < (foundP l v at0).nn + 4) : ValOf l v R at0 mem 0 false 4 :=
  ⟨by unfold valN; simp [hk, hm], by unfold valB; simp [hk, hm], by unfold valR; simp [h, hf, hk, hm]⟩
theorem val_word {l : List Pl} {v : Int} {R : Nat → Nat} {at0 : Nat} {mem : List Nat} (h : askedE l v [] = 0) (hf : isFound l v at0 = true) (hk : (foundP l v at0).ki = 1) (hm : ¬ (mem.length : Int) < (foundP l v at0).nn + 4) : ValOf l v R at0 mem (wordM mem (foundP l v at0).nn.toNat) true 0 :=
  ⟨by unfold valN; simp [h, hf, hk, hm], by unfold valB; simp [h, hf, hk, hm], by unfold valR; simp [h, hk, hm]⟩
end Go.Proofs.Ytmhneonebjcieaa
