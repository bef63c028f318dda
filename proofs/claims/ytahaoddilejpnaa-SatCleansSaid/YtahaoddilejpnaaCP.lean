/- Clean clauses plainly: lists in ascending order, each once; insertion. No program in sight. -/
import Derived.Test.YtahaoddilejpnaaPP
namespace Go.Proofs.Ytahaoddilejpnaa
open Go.Lib

/-- What slices.Compare makes of two lists. -/
def lexC : List Int → List Int → Int
  | [], [] => 0
  | [], _ :: _ => -1
  | _ :: _, [] => 1
  | x :: a, y :: b => if x < y then -1 else if y < x then 1 else lexC a b
theorem lexC_eq : ∀ {a b : List Int}, lexC a b = 0 ↔ a = b
  | [], [] => by simp [lexC]
  | [], _ :: _ => by simp [lexC]
  | _ :: _, [] => by simp [lexC]
  | x :: a, y :: b => by
    unfold lexC
    by_cases h1 : x < y
    · rw [if_pos h1]; simp; omega
    · rw [if_neg h1]
      by_cases h2 : y < x
      · rw [if_pos h2]; simp; omega
      · rw [if_neg h2, lexC_eq]
        obtain rfl : x = y := by omega
        simp
theorem lexC_turn : ∀ (a b : List Int), lexC b a = - lexC a b
  | [], [] => by simp [lexC]
  | [], _ :: _ => by simp [lexC]
  | _ :: _, [] => by simp [lexC]
  | x :: a, y :: b => by
    unfold lexC
    by_cases h1 : x < y
    · rw [if_pos h1, if_neg (by omega), if_pos h1]; rfl
    · by_cases h2 : y < x
      · rw [if_pos h2, if_neg h1, if_pos h2]
      · rw [if_neg h1, if_neg h2, if_neg h2, if_neg h1, lexC_turn a b]
theorem lexC_trans : ∀ {a b c : List Int}, lexC a b < 0 → lexC b c < 0 → lexC a c < 0
  | [], _, [], h1, h2 => by
    rename_i b
    cases b
    · simp [lexC] at h1
    · simp [lexC] at h2
  | [], _, _ :: _, _, _ => by simp [lexC]
  | _ :: _, [], _, h1, _ => by simp [lexC] at h1
  | _ :: _, _ :: _, [], _, h2 => by simp [lexC] at h2
  | x :: a, y :: b, z :: c, h1, h2 => by
    unfold lexC at h1 h2 ⊢
    by_cases e1 : x < y
    · by_cases e2 : y < z
      · rw [if_pos (by omega)]; decide
      · rw [if_neg e2] at h2
        by_cases e3 : z < y
        · rw [if_pos e3] at h2; omega
        · rw [if_pos (by omega)]; decide
    · rw [if_neg e1] at h1
      by_cases e3 : y < x
      · rw [if_pos e3] at h1; omega
      · rw [if_neg e3] at h1
        obtain rfl : x = y := by omega
        by_cases e2 : x < z
        · rw [if_pos e2]; decide
        · rw [if_neg e2] at h2 ⊢
          by_cases e4 : z < x
          · rw [if_pos e4] at h2; omega
          · rw [if_neg e4] at h2 ⊢
            exact lexC_trans h1 h2
theorem lexC_self (a : List Int) : lexC a a = 0 := lexC_eq.2 rfl
def ltL (a b : List Int) : Prop := lexC a b < 0
instance (a b : List Int) : Decidable (ltL a b) := by unfold ltL; infer_instance
theorem ltL_irrefl (a : List Int) : ¬ ltL a a := by unfold ltL; rw [lexC_self]; omega
theorem ltL_trans {a b c : List Int} (h1 : ltL a b) (h2 : ltL b c) : ltL a c := lexC_trans h1 h2
theorem ltL_tri {a b : List Int} (h1 : ¬ ltL a b) (h2 : a ≠ b) : ltL b a := by
  unfold ltL at *
  have h3 : lexC a b ≠ 0 := fun h => h2 (lexC_eq.1 h)
  rw [lexC_turn a b]; omega
theorem ltL_ne {a b : List Int} (h : ltL a b) : a ≠ b := fun e => ltL_irrefl b (by rw [e] at h; exact h)
/-- Two lists that ascend and have the same elements are equal. -/
theorem lists_ext {a b : List (List Int)} (ha : a.Pairwise ltL) (hb : b.Pairwise ltL) (h : ∀ x, x ∈ a ↔ x ∈ b) : a = b :=
  List.Perm.eq_of_pairwise (le := ltL) (fun x _ _ _ h1 h2 => absurd (ltL_trans h1 h2) (ltL_irrefl x)) ha hb
    ((List.perm_ext_iff_of_nodup (ha.imp ltL_ne) (hb.imp ltL_ne)).2 h)

section
variable {α : Type} (lt : α → α → Prop) [DecidableRel lt]
/-- Where an element belongs. -/
def atG (x : α) (out : List α) : Nat := (out.takeWhile fun y => decide (lt y x)).length
def insG [DecidableEq α] (x : α) (out : List α) : List α := if out[atG lt x out]? = some x then out else out.take (atG lt x out) ++ x :: out.drop (atG lt x out)
theorem take_at (x : α) (out : List α) : out.take (atG lt x out) = out.takeWhile fun y => decide (lt y x) := by
  have h := List.takeWhile_append_dropWhile (p := fun y => decide (lt y x)) (l := out)
  unfold atG
  conv => lhs; arg 2; rw [← h]
  rw [List.take_left]
theorem drop_at (x : α) (out : List α) : out.drop (atG lt x out) = out.dropWhile fun y => decide (lt y x) := by
  have h := List.takeWhile_append_dropWhile (p := fun y => decide (lt y x)) (l := out)
  unfold atG
  conv => lhs; arg 2; rw [← h]
  rw [List.drop_left]
theorem get_at (x : α) (out : List α) : out[atG lt x out]? = (out.dropWhile fun y => decide (lt y x))[0]? := by
  rw [← drop_at lt x out, List.getElem?_drop, Nat.add_zero]
theorem ins_facts [DecidableEq α] (ht : ∀ a b c, lt a b → lt b c → lt a c) (h3 : ∀ a b, ¬ lt a b → a ≠ b → lt b a) (x : α) (out : List α) (ho : out.Pairwise lt) :
    (insG lt x out).Pairwise lt ∧ ∀ y, y ∈ insG lt x out ↔ y = x ∨ y ∈ out := by
  have hsplit := List.takeWhile_append_dropWhile (p := fun y => decide (lt y x)) (l := out)
  have htw : ∀ y ∈ out.takeWhile (fun y => decide (lt y x)), lt y x := fun y hy => by
    have := List.all_takeWhile (p := fun y => decide (lt y x)) (l := out)
    rw [List.all_eq_true] at this
    exact of_decide_eq_true (this y hy)
  have hd : ∀ y r, out.dropWhile (fun y => decide (lt y x)) = y :: r → ¬ lt y x := fun y r e => by
    have := List.head?_dropWhile_not (p := fun y => decide (lt y x)) (l := out)
    rw [e] at this
    simpa using this
  unfold insG
  rw [get_at, take_at, drop_at]
  generalize out.takeWhile (fun y => decide (lt y x)) = tw at *
  generalize out.dropWhile (fun y => decide (lt y x)) = dw at *
  subst hsplit
  rw [List.pairwise_append] at ho
  obtain ⟨o1, o2, o3⟩ := ho
  cases dw with
  | nil =>
    rw [if_neg (by simp)]
    refine ⟨?_, fun y => by simp [or_comm]⟩
    rw [List.pairwise_append]
    exact ⟨o1, by simp, fun a ha b hb => by rw [List.mem_singleton] at hb; subst hb; exact htw a ha⟩
  | cons y r =>
    have hy := hd y r rfl
    by_cases e : y = x
    · rw [if_pos (by simp [e])]
      refine ⟨List.pairwise_append.2 ⟨o1, o2, o3⟩, fun z => ⟨fun h => .inr h, fun h => ?_⟩⟩
      rcases h with rfl | h
      · simp [e]
      · exact h
    · rw [if_neg (by simpa using e)]
      have hxy := h3 y x hy e
      rw [List.pairwise_cons] at o2
      refine ⟨?_, fun z => by simp; constructor <;> (intro h; rcases h with h | h | h | h <;> simp [h])⟩
      rw [List.pairwise_append, List.pairwise_cons, List.pairwise_cons]
      refine ⟨o1, ⟨fun z hz => ?_, fun z hz => o2.1 z hz, o2.2⟩, fun a ha b hb => ?_⟩
      · rcases List.mem_cons.1 hz with rfl | hz
        · exact hxy
        · exact ht _ _ _ hxy (o2.1 z hz)
      · rcases List.mem_cons.1 hb with rfl | hb
        · exact htw a ha
        · exact o3 a ha b hb
theorem at_le (x : α) (out : List α) : atG lt x out ≤ out.length := by
  unfold atG
  have h := congrArg List.length (List.takeWhile_append_dropWhile (p := fun y => decide (lt y x)) (l := out))
  rw [List.length_append] at h; omega
end
/-- A clause in ascending order, each literal once. -/
def plainL (k : List Int) : List Int := compact (sortI k)
def insI (x : Int) (out : List Int) : List Int := insG (fun a b : Int => a < b) x out
def ordL (k : List Int) : List Int := k.foldl (fun out x => insI x out) []
theorem ord_facts : ∀ (k out : List Int), out.Pairwise (· < ·) → (k.foldl (fun out x => insI x out) out).Pairwise (· < ·) ∧ ∀ y, y ∈ k.foldl (fun out x => insI x out) out ↔ y ∈ k ∨ y ∈ out
  | [], out, h => ⟨h, fun y => by simp⟩
  | x :: k, out, h => by
    obtain ⟨h1, h2⟩ := ins_facts (fun a b : Int => a < b) (fun a b c h1 h2 => by omega) (fun a b h1 h2 => by omega) x out h
    obtain ⟨h3, h4⟩ := ord_facts k (insI x out) h1
    refine ⟨h3, fun y => ?_⟩
    rw [List.foldl_cons, h4]
    unfold insI
    rw [h2]
    simp only [List.mem_cons]
    constructor
    · rintro (h | h | h) <;> simp [h]
    · rintro ((h | h) | h) <;> simp [h]
theorem plain_facts (k : List Int) : (plainL k).Pairwise (· < ·) ∧ ∀ x, x ∈ plainL k ↔ x ∈ k := by
  obtain ⟨h1, h2⟩ := compact_facts _ (sortI_sorted k)
  exact ⟨h1, fun x => (h2 x).trans (sortI_mem _ x)⟩
theorem plain_ord (k : List Int) : ordL k = plainL k := by
  obtain ⟨h1, h2⟩ := ord_facts k [] (by simp)
  obtain ⟨h3, h4⟩ := plain_facts k
  exact sorted_ext h1 h3 fun x => by
    show x ∈ k.foldl _ _ ↔ _
    rw [h2, h4]; simp
/-- Both literals of a variable are there. -/
def tautB (x : List Int) : Bool := x.any fun l => hasB x (-l)
theorem taut_half {x : List Int} (h0 : ∀ l ∈ x, l ≠ 0) : (x.any fun l => decide (l < 0) && hasB x (-l)) = tautB x := by
  unfold tautB
  rw [Bool.eq_iff_iff, List.any_eq_true, List.any_eq_true]
  constructor
  · rintro ⟨l, h1, h2⟩
    rw [Bool.and_eq_true] at h2
    exact ⟨l, h1, h2.2⟩
  · rintro ⟨l, h1, h2⟩
    have := h0 l h1
    by_cases hl : l < 0
    · exact ⟨l, h1, by rw [decide_eq_true hl, h2]; rfl⟩
    · have h3 := hasB_mem.1 h2
      exact ⟨-l, h3, by rw [decide_eq_true (by omega), Bool.true_and, Int.neg_neg]; exact hasB_mem.2 h1⟩
def insR (x : List Int) (out : List (List Int)) : List (List Int) := insG ltL x out
/-- The clean clauses. -/
def cleanL (g : List (List Int)) : List (List Int) := g.foldl (fun out k => if tautB (plainL k) then out else insR (plainL k) out) []
theorem clean_succ (g : List (List Int)) (k : Nat) (hk : k < g.length) : cleanL (g.take (k + 1)) = if tautB (plainL (g.getD k [])) then cleanL (g.take k) else insR (plainL (g.getD k [])) (cleanL (g.take k)) := by
  unfold cleanL
  rw [List.take_succ_eq_append_getElem hk, List.foldl_append, List.getD_eq_getElem?_getD, List.getElem?_eq_getElem hk]
  rfl
theorem ins_rows (x : List Int) (out : List (List Int)) (h : out.Pairwise ltL) : (insR x out).Pairwise ltL ∧ ∀ y, y ∈ insR x out ↔ y = x ∨ y ∈ out :=
  ins_facts ltL (fun _ _ _ => ltL_trans) (fun _ _ => ltL_tri) x out h
theorem clean_fold : ∀ (g out : List (List Int)), out.Pairwise ltL → (g.foldl (fun out k => if tautB (plainL k) then out else insR (plainL k) out) out).Pairwise ltL ∧ ∀ y, y ∈ g.foldl (fun out k => if tautB (plainL k) then out else insR (plainL k) out) out ↔ (∃ k ∈ g, tautB (plainL k) = false ∧ plainL k = y) ∨ y ∈ out
  | [], out, h => ⟨h, fun y => by simp⟩
  | k :: g, out, h => by
    rw [List.foldl_cons]
    by_cases ht : tautB (plainL k) = true
    · rw [if_pos ht]
      obtain ⟨h1, h2⟩ := clean_fold g out h
      refine ⟨h1, fun y => ?_⟩
      rw [h2]
      constructor
      · rintro (⟨k', a, b, c⟩ | a)
        · exact .inl ⟨k', List.mem_cons_of_mem _ a, b, c⟩
        · exact .inr a
      · rintro (⟨k', a, b, c⟩ | a)
        · rcases List.mem_cons.1 a with rfl | a
          · rw [ht] at b; cases b
          · exact .inl ⟨k', a, b, c⟩
        · exact .inr a
    · rw [if_neg ht]
      obtain ⟨g1, g2⟩ := ins_rows (plainL k) out h
      obtain ⟨h1, h2⟩ := clean_fold g _ g1
      refine ⟨h1, fun y => ?_⟩
      rw [h2, g2]
      have ht2 : tautB (plainL k) = false := by simpa using ht
      constructor
      · rintro (⟨k', a, b, c⟩ | a | a)
        · exact .inl ⟨k', List.mem_cons_of_mem _ a, b, c⟩
        · exact .inl ⟨k, by simp, ht2, a.symm⟩
        · exact .inr a
      · rintro (⟨k', a, b, c⟩ | a)
        · rcases List.mem_cons.1 a with rfl | a
          · exact .inr (.inl c.symm)
          · exact .inl ⟨k', a, b, c⟩
        · exact .inr (.inr a)
theorem clean_facts (g : List (List Int)) : (cleanL g).Pairwise ltL ∧ ∀ y, y ∈ cleanL g ↔ ∃ k ∈ g, tautB (plainL k) = false ∧ plainL k = y := by
  obtain ⟨h1, h2⟩ := clean_fold g [] (by simp)
  exact ⟨h1, fun y => by unfold cleanL; rw [h2]; simp⟩
theorem clean_is {g L : List (List Int)} (h1 : L.Pairwise ltL) (h2 : ∀ y, y ∈ L ↔ ∃ k ∈ g, tautB (plainL k) = false ∧ plainL k = y) : L = cleanL g :=
  lists_ext h1 (clean_facts g).1 fun y => (h2 y).trans ((clean_facts g).2 y).symm
theorem plain_plain (k : List Int) : plainL (plainL k) = plainL k :=
  sorted_ext (plain_facts _).1 (plain_facts _).1 fun x => (plain_facts (plainL k)).2 x
/-- Clean clauses are clean. -/
theorem clean_clean (g : List (List Int)) : cleanL (cleanL g) = cleanL g := by
  refine (clean_is (clean_facts g).1 fun y => ?_).symm
  constructor
  · intro hy
    obtain ⟨k, hk, ht, rfl⟩ := ((clean_facts g).2 y).1 hy
    exact ⟨plainL k, hy, by rw [plain_plain]; exact ht, plain_plain k⟩
  · rintro ⟨k', hk', ht, rfl⟩
    obtain ⟨k, hk, ht2, rfl⟩ := ((clean_facts g).2 k').1 hk'
    rw [plain_plain]; exact hk'
end Go.Proofs.Ytahaoddilejpnaa
