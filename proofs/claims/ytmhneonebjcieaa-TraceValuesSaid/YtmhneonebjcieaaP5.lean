/- Plain facts on the document's reading of bytes: it reads what the program reads. No program in sight. -/
import Derived.Test.YtmhneonebjcieaaP4
namespace Go.Proofs.Ytmhneonebjcieaa

/-- The numbers that are read, the number under way, and its shift. -/
structure RS where
  ns : List Nat
  n : Nat
  at' : Nat
def stepR (s : RS) (x : Nat) : Option RS := if 40 < s.at' then none else if x < 128 then some ⟨s.ns ++ [s.n + x % 128 * 2 ^ s.at'], 0, 0⟩ else some ⟨s.ns, s.n + x % 128 * 2 ^ s.at', s.at' + 7⟩
def runR (o : Option RS) (l : List Nat) : Option RS := l.foldl (fun o x => o.bind (stepR · x)) o
theorem runR_snoc (o : Option RS) (l : List Nat) (x : Nat) : runR o (l ++ [x]) = (runR o l).bind (stepR · x) := by simp [runR]
theorem runR_append (o : Option RS) (l m : List Nat) : runR o (l ++ m) = runR (runR o l) m := by simp [runR]
theorem runR_none : ∀ l, runR none l = none
  | [] => rfl
  | _ :: l => runR_none l
def startR : RS := ⟨[], 0, 0⟩
theorem runR_grp : ∀ (f n lo j : Nat) (ns : List Nat), j + f = 5 → n < 128 ^ (f + 1) → runR (some ⟨ns, lo, 7 * j⟩) (grp n) = some ⟨ns ++ [lo + n * 2 ^ (7 * j)], 0, 0⟩ := by
  intro f
  induction f with
  | zero =>
    intro n lo j ns hj hn
    have hn : n < 128 := by simpa using hn
    rw [grp_lt hn]
    show (if 40 < 7 * j then none else if n < 128 then _ else _) = _
    rw [if_neg (by omega), if_pos hn, Nat.mod_eq_of_lt hn]
  | succ f ih =>
    intro n lo j ns hj hn
    by_cases h : n < 128
    · rw [grp_lt h]
      show (if 40 < 7 * j then none else if n < 128 then _ else _) = _
      rw [if_neg (by omega), if_pos h, Nat.mod_eq_of_lt h]
    · rw [grp_ge (by omega)]
      show runR (if 40 < 7 * j then none else if n % 128 + 128 < 128 then _ else some ⟨ns, lo + (n % 128 + 128) % 128 * 2 ^ (7 * j), 7 * j + 7⟩) (grp (n / 128)) = _
      rw [if_neg (by omega), if_neg (by omega), show 7 * j + 7 = 7 * (j + 1) by omega]
      rw [ih (n / 128) _ (j + 1) ns (by omega) (by rw [Nat.pow_succ] at hn; exact Nat.div_lt_of_lt_mul (by rw [Nat.mul_comm]; exact hn))]
      have e : lo + (n % 128 + 128) % 128 * 2 ^ (7 * j) + n / 128 * 2 ^ (7 * (j + 1)) = lo + n * 2 ^ (7 * j) := by
        rw [show 7 * (j + 1) = 7 * j + 7 by omega, Nat.pow_add, Nat.add_mod_right, Nat.mod_mod]
        have : n * 2 ^ (7 * j) = (n % 128 + 128 * (n / 128)) * 2 ^ (7 * j) := by rw [Nat.mod_add_div]
        rw [this, Nat.add_mul]
        have e2 : n / 128 * (2 ^ (7 * j) * 2 ^ 7) = 128 * (n / 128) * 2 ^ (7 * j) := by
          rw [show (2 : Nat) ^ 7 = 128 by decide, Nat.mul_comm (2 ^ (7 * j)) 128, ← Nat.mul_assoc, Nat.mul_comm (n / 128) 128]
        omega
      rw [e]
theorem runR_nums : ∀ (ns pre : List Nat), (∀ n ∈ ns, n ≤ 4294967295) → runR (some ⟨pre, 0, 0⟩) (ns.flatMap grp) = some ⟨pre ++ ns, 0, 0⟩
  | [], pre, _ => by simp [runR]
  | n :: ns, pre, h => by
    rw [List.flatMap_cons, runR_append]
    have := runR_grp 5 n 0 0 pre rfl (by have := h n (by simp); omega)
    rw [Nat.mul_zero] at this
    rw [this, runR_nums ns _ (fun m hm => h m (by simp [hm]))]
    simp
/-- The places that numbers make. -/
def mkK (ns : List Nat) : Nat → List Pl × Int
  | 0 => ([], 0)
  | k + 1 => ((mkK ns k).1 ++ [⟨(mkK ns k).2 + (ns.getD (1 + 5 * k) 0 : Nat), (mkK ns k).2 + (ns.getD (1 + 5 * k) 0 : Nat) + (ns.getD (1 + 5 * k + 1) 0 : Nat), (ns.getD (1 + 5 * k + 2) 0 : Nat), (ns.getD (1 + 5 * k + 3) 0 : Nat), (ns.getD (1 + 5 * k + 4) 0 : Nat)⟩], (mkK ns k).2 + (ns.getD (1 + 5 * k) 0 : Nat))
def okNs (s : RS) : Bool := decide (s.at' = 0) && (decide (s.ns ≠ []) && (decide (s.ns.getD 0 0 ≤ 64) && decide (s.ns.length = 1 + 5 * s.ns.getD 0 0)))
def refR (b : List Nat) : Option (List Pl) := match runR (some startR) b with
  | none => none
  | some s => if okNs s && (decide (valE (mkK s.ns (s.ns.getD 0 0)).1 = 0) && decide (encB (mkK s.ns (s.ns.getD 0 0)).1 = b)) then some (mkK s.ns (s.ns.getD 0 0)).1 else none
theorem numsP_len : ∀ (l : List Pl) (last : Int), (numsP last l).length = 5 * l.length
  | [], _ => rfl
  | p :: l, last => by
    show (fieldsP last p ++ numsP p.fr l).length = 5 * (l.length + 1)
    rw [List.length_append, numsP_len l]
    show 5 + _ = _
    omega
theorem numsP_get : ∀ (l : List Pl) (last : Int) (k j : Nat), k < l.length → j < 5 → (numsP last l).getD (5 * k + j) 0 = (fieldsP (lastF last (l.take k)) (at' l k)).getD j 0
  | p :: l, last, 0, j, _, hj => by
    show (fieldsP last p ++ numsP p.fr l).getD (5 * 0 + j) 0 = (fieldsP last p).getD j 0
    rw [Nat.mul_zero, Nat.zero_add, List.getD_eq_getElem?_getD, List.getD_eq_getElem?_getD, List.getElem?_append_left (by show j < 5; exact hj)]
  | p :: l, last, k + 1, j, hk, hj => by
    have := numsP_get l p.fr k j (by simpa using hk) hj
    show (fieldsP last p ++ numsP p.fr l).getD (5 * (k + 1) + j) 0 = (fieldsP (lastF p.fr (l.take k)) (at' l k)).getD j 0
    rw [← this, List.getD_eq_getElem?_getD, List.getD_eq_getElem?_getD, List.getElem?_append_right (by show 5 ≤ _; omega)]
    congr 2
    show 5 * (k + 1) + j - 5 = 5 * k + j
    omega
theorem mkK_table {l : List Pl} (h : Table l) : ∀ k, k ≤ l.length → mkK (l.length :: numsP 0 l) k = (l.take k, fromK l k)
  | 0, _ => by simp [mkK, fromK, lastF]
  | k + 1, hk => by
    have ih := mkK_table h k (by omega)
    have hb := fromK_bd h (k := k) (by omega)
    obtain ⟨f0, ft, t1, v0, v1, k0, k1, n0, n1⟩ := h.good k (by omega)
    have g : ∀ j, j < 5 → (l.length :: numsP 0 l).getD (1 + 5 * k + j) 0 = (fieldsP (fromK l k) (at' l k)).getD j 0 := fun j hj => by
      rw [show 1 + 5 * k + j = (5 * k + j) + 1 by omega, List.getD_cons_succ]
      exact numsP_get l 0 k j (by omega) hj
    have g0 := g 0 (by omega)
    rw [Nat.add_zero] at g0
    unfold mkK
    rw [ih, g0, g 1 (by omega), g 2 (by omega), g 3 (by omega), g 4 (by omega), take_next (by omega), fromK_succ (by omega)]
    unfold fieldsP
    simp only [List.getD_cons_zero, List.getD_cons_succ]
    rw [Prod.mk.injEq]
    refine ⟨?_, by omega⟩
    congr 2
    exact Pl.ext' (by simp only; omega) (by simp only; omega) (by simp only; omega) (by simp only; omega) (by simp only; omega)
theorem numsP_le {l : List Pl} : ∀ (last : Int), (∀ p ∈ l, Good p) → 0 ≤ last → ∀ n ∈ numsP last l, n ≤ 4294967295 := by
  induction l with
  | nil => intro last _ _ n hn; cases hn
  | cons p l ih =>
    intro last hg h0 n hn
    rcases List.mem_append.1 (show n ∈ fieldsP last p ++ numsP p.fr l from hn) with h | h
    · obtain ⟨f0, ft, t1, v0, v1, k0, k1, n0, n1⟩ := hg p (by simp)
      have := limK_le p.ki
      simp only [fieldsP, List.mem_cons, List.not_mem_nil, or_false] at h
      rcases h with rfl | rfl | rfl | rfl | rfl <;> omega
    · exact ih p.fr (fun q hq => hg q (by simp [hq])) (hg p (by simp)).f0 n h
theorem refR_eq {b : List Nat} (hb : ∀ x ∈ b, x < 256) : refR b = decR b := by
  cases hd : decR b with
  | some l =>
    obtain ⟨ht, rfl⟩ := decR_back hb hd
    have hr : runR (some startR) (encB l) = some ⟨l.length :: numsP 0 l, 0, 0⟩ := by
      have := runR_nums (l.length :: numsP 0 l) [] (fun n hn => by
        rcases List.mem_cons.1 hn with rfl | hn
        · have := ht.len; omega
        · exact numsP_le 0 (fun p hp => ht.mem hp) (Int.le_refl _) n hn)
      rw [List.flatMap_cons, List.nil_append] at this
      exact this
    unfold refR
    rw [hr]
    simp only [List.getD_cons_zero]
    rw [mkK_table ht l.length (Nat.le_refl _), List.take_length]
    rw [if_pos]
    unfold okNs
    have := ht.len
    have := numsP_len l 0
    simp [valE_zero.2 ht]
    omega
  | none =>
    cases hr : refR b with
    | none => rfl
    | some l =>
      exfalso
      unfold refR at hr
      split at hr
      · cases hr
      · split at hr
        · rename_i h
          simp only [Option.some.injEq] at hr
          rw [Bool.and_eq_true, Bool.and_eq_true, decide_eq_true_iff, decide_eq_true_iff] at h
          rw [hr] at h
          have := decR_enc (valE_zero.1 h.2.1)
          rw [h.2.2, hd] at this
          cases this
        · cases hr
end Go.Proofs.Ytmhneonebjcieaa
