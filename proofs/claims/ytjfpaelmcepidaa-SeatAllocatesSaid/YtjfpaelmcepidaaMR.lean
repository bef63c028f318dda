/- What the walks of Watch want. -/
import Derived.Test.YtjfpaelmcepidaaM1
import Derived.Test.YtjfpaelmcepidaaMP
import Derived.Deep.OwnRows
import Derived.StillTailTactics
import Derived.IntWalk
import Derived.Deep.Cut
import Derived.Deep.CutRange
namespace Go.Proofs.Ytjfpaelmcepidaa.PK
open Go.RowKit

theorem infoU8 : (Try.prog.info? 5).map (fun i => (i.zero, i.size, i.bytes)) = some (some (.int .u8 0), 1, 1) := by kernel_rfl
theorem infoU32 : (Try.prog.info? 65).map (fun i => (i.zero, i.size, i.bytes)) = some (some (.int .u32 0), 1, 4) := by kernel_rfl
theorem addr_add (b off j : Nat) : (⟨b, off, none⟩ : Addr).add j = ⟨b, off + j, none⟩ := by unfold Addr.add; split <;> simp_all
theorem news_bin {w : World} {b off : Nat} {l : List Int} (h : BIn w (some ⟨b, off, none⟩) l) : ∀ j u, (encB l)[j]? = some u → w.cell? ((⟨b, off, none⟩ : Addr).add j) = some u := fun j u hj => by
  have hjl : j < l.length := by rw [← encB_len]; exact (List.getElem?_eq_some_iff.1 hj).1
  obtain ⟨b', o', e, hc⟩ := h j hjl
  simp only [Option.some.injEq, Addr.mk.injEq, and_true] at e
  obtain ⟨rfl, rfl⟩ := e
  rw [encB_get hjl] at hj
  rw [addr_add, hc, hj]
theorem one_b (l : List Int) : ∀ u ∈ encB l, u.oneCell' = true := by
  intro u hu
  obtain ⟨x, _, rfl⟩ := List.mem_map.1 hu
  rfl
theorem owns_empty (w : World) (B : Nat) (h : B ≤ w.heap.size) (e : TypeId) : (w.alloc (.cells #[] e)).ownsRow B e 1 (.slice (some ⟨w.heap.size, 0, none⟩) 0 0) 0 [] :=
  ⟨rfl, .inr ⟨w.heap.size, 0, #[], rfl, h, heap_alloc_new w _, Nat.le_refl _, Nat.zero_le _, rfl, rfl⟩⟩
theorem owns_at {w : World} {B n : Nat} {e : TypeId} {v : Value} {xs : List Value} (h : w.ownsRow B e 1 v n xs) (hn : 0 < n) : ∃ g cap, v = .slice (some ⟨g, 0, none⟩) n cap ∧ B ≤ g ∧ g < w.heap.size := by
  obtain ⟨g, cap, rfl, _, _, hB, hg, _⟩ := owns_cells h hn
  exact ⟨g, cap, rfl, hB, hg⟩
theorem row_save {w w' : World} {q B g n c : Nat} {e : TypeId} {xs : List Value} (h : w.ownsRow B e 1 (.slice (some ⟨g, 0, none⟩) n c) n xs) (hs : Save q w w') (hq : g ≠ q) : w'.ownsRow B e 1 (.slice (some ⟨g, 0, none⟩) n c) n xs :=
  owns_of_block h fun k h1 h2 hk => by
    simp only [Value.ownBlock, Option.some.injEq] at hk
    exact hs.block k h2 (by omega)
theorem tch0 {s : Mach} (x : Cd) (h : s.tch = false) : tchB s x 0 0 = false := by
  unfold tchB
  rw [h, decide_eq_false (by omega)]; rfl
theorem w64_two {P n : Nat} (h : (P : Int) < 4294967296) (h2 : n ≤ 4) : wrap64 ((P : Int) + (n : Int)) = (P : Int) + (n : Int) := IntWalk.wrap64_in _ (by omega)
theorem w64_one {P : Nat} (h : (P : Int) < 4294967296) : wrap64 (P : Int) = (P : Int) := IntWalk.wrap64_in _ (by omega)
theorem nB_le (op : Int) : nB op ≤ 4 := by
  unfold nB
  split
  · decide
  · split <;> decide
/-- A machine in memory. -/
structure MchAt (w : World) (q g mc B : Nat) (s : Mach) : Prop where
  u : URow w q s.rg
  m : w.ownsRow B 5 1 (.slice (some ⟨g, 0, none⟩) s.mem.length mc) s.mem.length (encB s.mem)
theorem MchAt.below {w w' : World} {q g mc B : Nat} {s : Mach} (h : MchAt w q g mc B s) (hb : Below w.heap.size w w') : MchAt w' q g mc B s := ⟨h.u.below hb, owns_below h.m hb⟩
theorem news_src {w : World} {ad : Addr} {l : List Int} (h : BIn w (some ad) l) : ∀ j u, (encB l)[j]? = some u → w.cell? (ad.add j) = some u := fun j u hj => by
  have hjl : j < l.length := by rw [← encB_len]; exact (List.getElem?_eq_some_iff.1 hj).1
  obtain ⟨b', o', e, hc⟩ := h j hjl
  simp only [Option.some.injEq] at e
  subst e
  rw [encB_get hjl] at hj
  rw [addr_add, hc, hj]
theorem owns_some {w : World} {B n : Nat} {e : TypeId} {v : Value} {xs : List Value} (h : w.ownsRow B e 1 v n xs) (hn : ¬ v = .slice none 0 0) : ∃ g cap, v = .slice (some ⟨g, 0, none⟩) n cap ∧ B ≤ g ∧ g < w.heap.size := by
  rcases h.2 with ⟨e0, _⟩ | ⟨g, cap, cur, e0, hb, hg, _⟩
  · exact absurd e0 hn
  · exact ⟨g, cap, e0, hb, lt_of_block hg⟩
theorem prog_partsW {regs : Int} {ls : List (List Cd)} (h : progErrW regs ls = 0) : ¬ tooBigW regs ls ∧ (∀ k i, k < ls.length → i < (atB ls k).length → isCodeB (atC (atB ls k) i) regs ls.length = true) ∧ (∀ k, k < ls.length → 0 < (atB ls k).length ∧ ∀ i, i < (atB ls k).length → isLastB (atC (atB ls k) i).op = decide ((i : Int) = (atB ls k).length - 1)) := by
  unfold progErrW at h
  split at h
  · cases h
  · rename_i h1
    split at h
    · cases h
    · rename_i h2
      split at h
      · cases h
      · rename_i h3
        refine ⟨h1, fun k i hk hi => ?_, fun k hk => ⟨?_, fun i hi => ?_⟩⟩
        · cases hc : isCodeB (atC (atB ls k) i) regs ls.length
          · exfalso
            apply h2
            refine anyB_true k hk ?_
            rw [List.any_eq_true]
            exact ⟨_, atC_mem hi, by rw [hc]; rfl⟩
          · rfl
        · rcases Nat.eq_zero_or_pos (atB ls k).length with h0 | h0
          · exact absurd (anyB_true (p := badL) k hk (badL_nil h0)) h3
          · exact h0
        · cases hd : decide (isLastB (atC (atB ls k) i).op = decide ((i : Int) = (atB ls k).length - 1))
          · exact absurd (anyB_true (p := badL) k hk (badL_true i hi (of_decide_eq_false hd))) h3
          · exact of_decide_eq_true hd
end Go.Proofs.Ytjfpaelmcepidaa.PK
