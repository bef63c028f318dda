/- When instructions are issued, plainly. No program in sight. -/
import Derived.Test.YtccpjfppkahbmaaK1
import Derived.WalkKit
namespace Go.Proofs.Ytccpjfppkahbmaa
open PK

/-- The latency of an operation. -/
def lat (op : Int) : Int := if op = 4 then 3 else if 5 ≤ op ∧ op ≤ 8 then 12 else if 18 ≤ op ∧ op ≤ 20 then 2 else 1
theorem lat_small (op : Int) : 1 ≤ lat op ∧ lat op ≤ 12 := by
  unfold lat
  repeat' split
  all_goals omega
/-- The last instruction before i that writes r. -/
def lastW (l : List Cd) (r : Int) : Nat → Option Nat
  | 0 => none
  | i + 1 => if fD (atC l i).op = true ∧ (atC l i).d = r then some i else lastW l r i
theorem lastW_lt {l : List Cd} {r : Int} : ∀ {i j : Nat}, lastW l r i = some j → j < i
  | 0, _, h => by cases h
  | i + 1, j, h => by
    unfold lastW at h
    split at h
    · obtain rfl : i = j := by simpa using h
      exact Nat.lt_succ_self _
    · exact Nat.lt_succ_of_lt (lastW_lt h)
/-- When a register is ready. -/
def rdyF (l : List Cd) (ts : List Int) (i : Nat) (r : Int) : Option Int := (lastW l r i).map fun j => ts.getD j 0 + lat (atC l j).op
def startT (ts : List Int) (i : Nat) : Int := if i = 0 then 0 else ts.getD (i - 1) 0 + 1
def foldT (f : Int → Option Int) (rs : List Int) (t : Int) : Int := rs.foldl (fun t r => max t ((f r).getD 0)) t
def issAt (l : List Cd) (ts : List Int) (i : Nat) : Int := foldT (rdyF l ts i) (usesL (atC l i)) (startT ts i)
/-- The cycles of the first instructions. -/
def issN (l : List Cd) : Nat → List Int
  | 0 => []
  | i + 1 => issN l i ++ [issAt l (issN l i) i]
theorem issN_len (l : List Cd) : ∀ i, (issN l i).length = i
  | 0 => rfl
  | i + 1 => by simp [issN, issN_len l i]
theorem issN_old {l : List Cd} {i j : Nat} (h : j < i) : (issN l (i + 1)).getD j 0 = (issN l i).getD j 0 := by
  show (issN l i ++ [_]).getD j 0 = _
  rw [List.getD_eq_getElem?_getD, List.getD_eq_getElem?_getD, List.getElem?_append_left (by rw [issN_len]; exact h)]
theorem issN_new (l : List Cd) (i : Nat) : (issN l (i + 1)).getD i 0 = issAt l (issN l i) i := by
  show (issN l i ++ [_]).getD i 0 = _
  rw [List.getD_eq_getElem?_getD, List.getElem?_append_right (by rw [issN_len]; exact Nat.le_refl _), issN_len]
  simp
theorem issN_get {l : List Cd} {i j : Nat} (h : j < i) : (issN l i).getD j 0 = issAt l (issN l j) j := by
  induction i with
  | zero => omega
  | succ i ih =>
    by_cases c : j = i
    · subst c; exact issN_new l j
    · rw [issN_old (by omega)]; exact ih (by omega)
def putT (f : Int → Option Int) (k y : Int) : Int → Option Int := fun x => if x = k then some y else f x
theorem rdyF_same {l : List Cd} {i n : Nat} (h : i ≤ n) (r : Int) : rdyF l (issN l (n + 1)) i r = rdyF l (issN l n) i r := by
  unfold rdyF
  cases hl : lastW l r i with
  | none => rfl
  | some j =>
    have := lastW_lt hl
    simp only [Option.map_some]
    rw [issN_old (by omega)]
theorem rdyF_step (l : List Cd) (i : Nat) : rdyF l (issN l (i + 1)) (i + 1) = if fD (atC l i).op = true then putT (rdyF l (issN l i) i) (atC l i).d (issAt l (issN l i) i + lat (atC l i).op) else rdyF l (issN l i) i := by
  funext r
  by_cases hd : fD (atC l i).op = true
  · rw [if_pos hd]
    by_cases hr : (atC l i).d = r
    · have e : lastW l r (i + 1) = some i := if_pos ⟨hd, hr⟩
      unfold rdyF putT
      rw [e, if_pos hr.symm, Option.map_some, issN_new]
    · have e : lastW l r (i + 1) = lastW l r i := if_neg fun c => hr c.2
      have h2 := rdyF_same (l := l) (Nat.le_refl i) r
      unfold putT
      rw [if_neg (fun c => hr c.symm), ← h2]
      unfold rdyF
      rw [e]
  · have e : lastW l r (i + 1) = lastW l r i := if_neg fun c => hd c.1
    rw [if_neg hd, ← rdyF_same (l := l) (Nat.le_refl i) r]
    unfold rdyF
    rw [e]
theorem foldT_ge (f : Int → Option Int) : ∀ (rs : List Int) (t : Int), t ≤ foldT f rs t
  | [], t => Int.le_refl t
  | r :: rs, t => by
    have := foldT_ge f rs (max t ((f r).getD 0))
    unfold foldT at *
    rw [List.foldl_cons]; omega
theorem foldT_le {f : Int → Option Int} {m : Int} (hf : ∀ r, (f r).getD 0 ≤ m) : ∀ (rs : List Int) (t : Int), t ≤ m → foldT f rs t ≤ m
  | [], t, h => h
  | r :: rs, t, h => by
    have h2 := hf r
    have := foldT_le hf rs (max t ((f r).getD 0)) (by omega)
    unfold foldT at *
    rw [List.foldl_cons]; exact this
theorem issN_small (l : List Cd) : ∀ i j, j < i → 0 ≤ (issN l i).getD j 0 ∧ (issN l i).getD j 0 ≤ 13 * (j : Int)
  | 0, _, h => by omega
  | i + 1, j, h => by
    by_cases c : j = i
    · subst c
      rw [issN_new]
      unfold issAt
      have hs : 0 ≤ startT (issN l j) j ∧ startT (issN l j) j ≤ 13 * (j : Int) := by
        unfold startT
        by_cases h0 : j = 0
        · subst h0; simp
        · rw [if_neg h0]
          have := issN_small l j (j - 1) (by omega)
          omega
      constructor
      · exact Int.le_trans hs.1 (foldT_ge _ _ _)
      · refine foldT_le (fun r => ?_) _ _ hs.2
        unfold rdyF
        cases hl : lastW l r j with
        | none => simp; omega
        | some k =>
          have hk := lastW_lt hl
          have := issN_small l j k hk
          have := (lat_small (atC l k).op).2
          simp only [Option.map_some, Option.getD_some]
          omega
    · rw [issN_old (by omega)]
      exact issN_small l i j (by omega)
/-- The cost of the first instructions. -/
def costN (l : List Cd) : Nat → Int
  | 0 => 0
  | i + 1 => max (costN l i) ((issN l l.length).getD i 0 + lat (atC l i).op)
theorem costN_small (l : List Cd) : ∀ i, i ≤ l.length → 0 ≤ costN l i ∧ costN l i ≤ 13 * (i : Int)
  | 0, _ => by simp [costN]
  | i + 1, h => by
    have h1 := costN_small l i (by omega)
    have h2 := issN_small l l.length i (by omega)
    have h3 := lat_small (atC l i).op
    simp only [costN]
    omega
end Go.Proofs.Ytccpjfppkahbmaa
