/- Pairs of numbers ([2]int) in memory, and their equality. -/
import Derived.Test.YtjfpaelmcepidaaKD
import Derived.ChangeKeysEq
namespace Go.Proofs.Ytjfpaelmcepidaa.PK
open Go.RowKit

theorem partH0 (a b : Int) (w : World) : (part 3 #[.int .i64 a, .int .i64 b] (0 * 1)).run Try.prog w = .ok (.int .i64 a) w := by kernel_rfl
theorem partH1 (a b : Int) (w : World) : (part 3 #[.int .i64 a, .int .i64 b] (1 * 1)).run Try.prog w = .ok (.int .i64 b) w := by kernel_rfl
theorem intH (a : Int) (w : World) : (Op.equalIn 9999 3 (.int .i64 a) (.int .i64 a)).run Try.prog w = .ok true w := by
  rw [run_equalIn_int w 9998 3 _ _ _ _ Try.underlying3]; simp
theorem eqH_run (a b : Int) (w : World) : (Op.equalIn 10000 79 (.agg #[.int .i64 a, .int .i64 b]) (.agg #[.int .i64 a, .int .i64 b])).run Try.prog w = .ok true w := by
  obtain ⟨i, hi, _, _, _⟩ := info_parts Try.infoInt
  rw [show (10000 : Nat) = 9999 + 1 from rfl, run_equalIn_array w 9999 _ _ (show Try.prog.underlying 79 = some (.array 2 3) from Try.underlying79) hi]
  rw [show Try.prog.cellsOf 3 = 1 from by kernel_rfl]
  show (Op.eqItems 9999 3 1 _ _ [0, 1]).run Try.prog w = _
  have p0 := partH0 a b
  have p1 := partH1 a b
  rw [Nat.zero_mul] at p0
  rw [Nat.mul_one] at p1
  simp [Op.eqItems, p0, p1, intH]
theorem neqH_run (a b : Int) (w : World) : (binOp .neq 79 (.agg #[.int .i64 a, .int .i64 b]) (.agg #[.int .i64 a, .int .i64 b])).run Try.prog w = .ok (.bool false) w := by
  rw [run_neq_struct, eqH_run]; rfl
theorem guardH (op : BinOp) (x y : Operand) (a b c d : Int) (w : World) : (eqGuard op 79 x y (.agg #[.int .i64 a, .int .i64 b]) (.agg #[.int .i64 c, .int .i64 d])).run Try.prog w = .ok () w :=
  run_eqGuard_agg w op 79 x y _ _ (by kernel_rfl)
abbrev StrL := List (Int × Int)
def atH (l : StrL) (k : Nat) : Int × Int := l.getD k (0, 0)
def encH (l : StrL) : List Value := l.flatMap fun p => [.int .i64 p.1, .int .i64 p.2]
theorem encH_len : ∀ l : StrL, (encH l).length = l.length * 2
  | [] => rfl
  | p :: l => by
    have := encH_len l
    show (_ :: _ :: encH l).length = _
    simp only [List.length_cons, this]
    omega
theorem encH_snoc (l : StrL) (p : Int × Int) : encH (l ++ [p]) = encH l ++ [.int .i64 p.1, .int .i64 p.2] := by simp [encH]
theorem encH_get : ∀ (l : StrL) (k : Nat), k < l.length → (encH l)[k * 2]? = some (.int .i64 (atH l k).1) ∧ (encH l)[k * 2 + 1]? = some (.int .i64 (atH l k).2)
  | p :: l, 0, _ => ⟨rfl, rfl⟩
  | p :: l, k + 1, h => by
    have ih := encH_get l k (by simpa using h)
    have e : ∀ j, (encH (p :: l))[(k + 1) * 2 + j]? = (encH l)[k * 2 + j]? := fun j => by
      show (_ :: _ :: encH l)[(k + 1) * 2 + j]? = _
      rw [show (k + 1) * 2 + j = k * 2 + j + 1 + 1 by omega]
      simp only [List.getElem?_cons_succ]
    have e0 := e 0
    simp only [Nat.add_zero] at e0
    rw [e0, e 1]
    exact ih
theorem encH_set : ∀ (l : StrL) (k : Nat) (y : Int), k < l.length → encH (l.set k ((atH l k).1, y)) = (encH l).set (k * 2 + 1) (.int .i64 y)
  | p :: l, 0, y, _ => rfl
  | p :: l, k + 1, y, h => by
    have ih := encH_set l k y (by simpa using h)
    show (_ :: _ :: encH (l.set k ((atH l k).1, y))) = (_ :: _ :: encH l).set ((k + 1) * 2 + 1) _
    rw [show (k + 1) * 2 + 1 = k * 2 + 1 + 1 + 1 by omega]
    simp only [List.set_cons_succ]
    rw [ih]
/-- The cells of a slice are these stretches. -/
def StrIn (w : World) (a : Option Addr) (l : StrL) : Prop :=
  ∀ k, k < l.length → ∃ b off, a = some ⟨b, off, none⟩ ∧ w.cell? ⟨b, off + k * 2, none⟩ = some (.int .i64 (atH l k).1) ∧ w.cell? ⟨b, off + k * 2 + 1, none⟩ = some (.int .i64 (atH l k).2)
theorem StrIn.below {w w' : World} {a : Option Addr} {l : StrL} (h : StrIn w a l) (hb : Below w.heap.size w w') : StrIn w' a l := fun k hk => by
  obtain ⟨b, off, rfl, h1, h2⟩ := h k hk
  exact ⟨b, off, rfl, keep h1 hb, keep h2 hb⟩
theorem owns_row2 {w : World} {B : Nat} {e : TypeId} {v : Value} {l : StrL} (h : w.ownsRow B e 2 v l.length (encH l)) {k : Nat} (hk : k < l.length) : ∃ g cap, v = .slice (some ⟨g, 0, none⟩) l.length cap ∧ B ≤ g ∧ g < w.heap.size ∧ w.cell? ⟨g, k * 2, none⟩ = some (.int .i64 (atH l k).1) ∧ w.cell? ⟨g, k * 2 + 1, none⟩ = some (.int .i64 (atH l k).2) ∧ (∀ j, w.frozen? ⟨g, j, none⟩ = false) := by
  obtain ⟨hl, ⟨_, h0⟩ | ⟨g, cap, cur, rfl, hb, hg, hnc, hm, hcs, ht⟩⟩ := h
  · omega
  · obtain ⟨e0, e1⟩ := encH_get l k hk
    rw [← ht, List.getElem?_take, if_pos (by omega)] at e0 e1
    exact ⟨g, cap, rfl, hb, lt_of_block hg, by rw [cell_of_row w g _ _ _ _ hg]; simpa using e0, by rw [cell_of_row w g _ _ _ _ hg]; simpa using e1, fun j => frozen_of_row w g j _ _ hg⟩
theorem strIn_of_owns {w : World} {B : Nat} {e : TypeId} {v : Value} {l : StrL} (h : w.ownsRow B e 2 v l.length (encH l)) : ∃ a cap, v = .slice a l.length cap ∧ StrIn w a l := by
  by_cases h0 : l = []
  · subst h0
    obtain ⟨a, cap, rfl⟩ := owns_shape h
    exact ⟨a, cap, rfl, fun k hk => absurd hk (Nat.not_lt_zero _)⟩
  · obtain ⟨g, cap, e, _⟩ := owns_row2 h (List.length_pos_iff.2 h0)
    refine ⟨_, cap, e, fun k hk => ?_⟩
    obtain ⟨g', cap', e', _, _, h1, h2, _⟩ := owns_row2 h hk
    rw [e] at e'
    simp only [Value.slice.injEq, Option.some.injEq, Addr.mk.injEq, and_true, true_and] at e'
    obtain ⟨rfl, rfl⟩ := e'
    exact ⟨g, 0, rfl, by rw [Nat.zero_add]; exact h1, by rw [Nat.zero_add]; exact h2⟩
theorem Try.infoPair : (Try.prog.info? 79).map (fun i => (i.zero, i.size, i.bytes)) = some (some (.agg #[.int .i64 0, .int .i64 0]), 2, 16) := by kernel_rfl
theorem cell_two_at (w : World) (x y : Value) (t : TypeId) : ∀ j u, [x, y][j]? = some u → (w.alloc (.cells #[x, y] t)).cell? ((⟨w.heap.size, 0, none⟩ : Addr).add j) = some u := by
  intro j u hj
  rw [addr_zero, World.cell?_alloc_at _ _ _ _ rfl]
  match j, hj with
  | 0, hj => simpa using hj
  | 1, hj => simpa using hj
theorem one_two (a b : Int) : ∀ u ∈ [Value.int .i64 a, .int .i64 b], u.oneCell' = true := by simp [Value.oneCell']
end Go.Proofs.Ytjfpaelmcepidaa.PK
