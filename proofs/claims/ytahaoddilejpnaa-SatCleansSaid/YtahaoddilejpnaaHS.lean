/- How many models clauses have in which a literal was taken as true. -/
import Derived.Test.YtahaoddilejpnaaHM
namespace Go.Proofs.Ytahaoddilejpnaa

def flipB (i b : Nat) : Nat := b ^^^ 2 ^ i
theorem flip_flip (i b : Nat) : flipB i (flipB i b) = b := by unfold flipB; rw [Nat.xor_assoc, Nat.xor_self, Nat.xor_zero]
theorem flip_lt {n i b : Nat} (hi : i < n) (hb : b < 2 ^ n) : flipB i b < 2 ^ n := Nat.xor_lt_two_pow hb (Nat.pow_lt_pow_right (by decide) hi)
theorem flip_same (i b : Nat) : (flipB i b).testBit i = !b.testBit i := by unfold flipB; rw [Nat.testBit_xor, Nat.testBit_two_pow]; simp
theorem flip_other {i j : Nat} (b : Nat) (h : i ≠ j) : (flipB i b).testBit j = b.testBit j := by unfold flipB; rw [Nat.testBit_xor, Nat.testBit_two_pow]; simp [h]
theorem count_flip {n i : Nat} (hi : i < n) (p : Nat → Bool) : (List.range (2 ^ n)).countP (fun b => p (flipB i b)) = (List.range (2 ^ n)).countP p := by
  have e : (List.range (2 ^ n)).countP (fun b => p (flipB i b)) = ((List.range (2 ^ n)).map (flipB i)).countP p := by rw [List.countP_map]; rfl
  rw [e]
  apply List.Perm.countP_eq
  rw [List.perm_ext_iff_of_nodup]
  · intro b
    rw [List.mem_map, List.mem_range]
    constructor
    · rintro ⟨c, hc, rfl⟩
      exact flip_lt hi (List.mem_range.1 hc)
    · intro hb
      exact ⟨flipB i b, List.mem_range.2 (flip_lt hi hb), flip_flip i b⟩
  · refine List.Pairwise.map (flipB i) (fun a b h e => h ?_) List.nodup_range
    have := congrArg (flipB i) e
    rwa [flip_flip, flip_flip] at this
  · exact List.nodup_range
theorem count_split (l : List Nat) (p t : Nat → Bool) : l.countP p = l.countP (fun b => p b && t b) + l.countP (fun b => p b && !t b) := by
  induction l with
  | nil => rfl
  | cons a l ih =>
    rw [List.countP_cons, List.countP_cons, List.countP_cons, ih]
    cases p a <;> cases t a <;> simp <;> omega
theorem count_congr {n : Nat} {p q : Nat → Bool} (h : ∀ b, b < 2 ^ n → p b = q b) : (List.range (2 ^ n)).countP p = (List.range (2 ^ n)).countP q :=
  List.countP_congr fun b hb => by rw [h b (List.mem_range.1 hb)]
theorem cnt_eq (n : Nat) (g : List (List Int)) : cntTo n g (2 ^ n) = (List.range (2 ^ n)).countP fun b => holdsB g (bitsM n b) := by
  unfold cntTo; rw [List.countP_eq_length_filter]
/-- What is true at b stays true where only the taken literal's variable turns. -/
def AllLits (n : Int) (g : List (List Int)) : Prop := ∀ k ∈ g, ∀ x ∈ k, litB n x = true
theorem allLits_of {n : Int} {g : List (List Int)} (h : ∀ k, k < g.length → ∀ j, j < (g.getD k []).length → litB n ((g.getD k []).getD j 0) = true) : AllLits n g := fun k hk x hx => by
  obtain ⟨i, hi, rfl⟩ := List.mem_iff_getElem.1 hk
  obtain ⟨j, hj, rfl⟩ := List.mem_iff_getElem.1 hx
  have := h i hi j
  rw [List.getD_eq_getElem?_getD, List.getElem?_eq_getElem hi] at this
  have := this hj
  simpa [List.getD_eq_getElem?_getD, List.getElem?_eq_getElem hj] using this
theorem validE_zero {n : Int} {g : List (List Int)} (h0 : 0 ≤ n) (h1 : n ≤ 4000) (h2 : g.length ≤ 24000) (h : AllLits n g) : validE n g = 0 := by
  unfold validE
  rw [if_neg (by omega), if_neg]
  rw [Bool.not_eq_true, List.any_eq_false]
  intro k hk
  rw [Bool.not_eq_true, List.any_eq_false]
  intro x hx
  rw [h k hk x hx]; decide
theorem assign_lits {n l : Int} {g : List (List Int)} (h : AllLits n g) : AllLits n (assignL l g) := fun k hk x hx => by
  unfold assignL at hk
  obtain ⟨k0, hk0, rfl⟩ := List.mem_map.1 hk
  exact h k0 (List.mem_filter.1 hk0).1 x (List.mem_filter.1 hx).1
theorem litT_neg {n b : Nat} {l : Int} (h : litB n l = true) : litT (bitsM n b) (-l) = !litT (bitsM n b) l := by
  have hb := lit_bds h
  have h' : litB n (-l) = true := by unfold litB; apply decide_eq_true; omega
  rw [litT_bits h, litT_bits h', Int.natAbs_neg]
  rcases hb with hb | hb
  · rw [decide_eq_true (show 0 < l by omega), decide_eq_false (show ¬ 0 < -l by omega)]
    cases b.testBit (l.natAbs - 1) <;> rfl
  · rw [decide_eq_false (show ¬ 0 < l by omega), decide_eq_true (show 0 < -l by omega)]
    cases b.testBit (l.natAbs - 1) <;> rfl
theorem litT_flip {n b : Nat} {l : Int} (h : litB n l = true) : litT (bitsM n (flipB (l.natAbs - 1) b)) l = !litT (bitsM n b) l := by
  rw [litT_bits h, litT_bits h, flip_same]
  cases b.testBit (l.natAbs - 1) <;> cases decide (0 < l) <;> rfl
theorem litT_other {n b : Nat} {l x : Int} (h : litB n l = true) (hx : litB n x = true) (h1 : x ≠ l) (h2 : x ≠ -l) : litT (bitsM n (flipB (l.natAbs - 1) b)) x = litT (bitsM n b) x := by
  have hb := lit_bds h
  have hxb := lit_bds hx
  rw [litT_bits hx, litT_bits hx, flip_other _ (by omega)]
theorem hasB_mem {k : List Int} {l : Int} : hasB k l = true ↔ l ∈ k := by
  unfold hasB
  rw [List.any_eq_true]
  constructor
  · rintro ⟨x, hx, e⟩
    have : x = l := by simpa using e
    rwa [← this]
  · intro h
    exact ⟨l, h, by simp⟩
theorem any_congr_mem {k : List Int} {p q : Int → Bool} (h : ∀ x ∈ k, p x = q x) : k.any p = k.any q := by
  induction k with
  | nil => rfl
  | cons a k ih => rw [List.any_cons, List.any_cons, h a (by simp), ih fun x hx => h x (by simp [hx])]
theorem all_congr_mem {g : List (List Int)} {p q : List Int → Bool} (h : ∀ x ∈ g, p x = q x) : g.all p = g.all q := by
  induction g with
  | nil => rfl
  | cons a k ih => rw [List.all_cons, List.all_cons, h a (by simp), ih fun x hx => h x (by simp [hx])]
/-- Clauses with a literal taken as true do not see the variable. -/
theorem assign_flip {n b : Nat} {l : Int} {g : List (List Int)} (h : litB n l = true) (hg : AllLits n g) : holdsB (assignL l g) (bitsM n (flipB (l.natAbs - 1) b)) = holdsB (assignL l g) (bitsM n b) := by
  unfold holdsB
  refine all_congr_mem fun k hk => any_congr_mem fun x hx => ?_
  unfold assignL at hk
  obtain ⟨k0, hk0, rfl⟩ := List.mem_map.1 hk
  obtain ⟨hk1, hk2⟩ := List.mem_filter.1 hk0
  obtain ⟨hx1, hx2⟩ := List.mem_filter.1 hx
  refine litT_other h (hg k0 hk1 x hx1) (fun e => ?_) (by simpa using hx2)
  subst e
  have := hasB_mem.2 hx1
  rw [this] at hk2
  cases hk2
/-- Where the literal is true, they say the same. -/
theorem assign_true {n b : Nat} {l : Int} {g : List (List Int)} (h : litB n l = true) (ht : litT (bitsM n b) l = true) : holdsB (assignL l g) (bitsM n b) = holdsB g (bitsM n b) := by
  unfold holdsB assignL
  induction g with
  | nil => rfl
  | cons k g ih =>
    rw [List.all_cons, ← ih, List.filter_cons]
    cases hk : hasB k l
    · rw [if_pos (by rfl), List.map_cons, List.all_cons]
      congr 1
      rw [List.any_filter]
      refine any_congr_mem fun x _ => ?_
      by_cases e : x = -l
      · subst e
        rw [litT_neg h, ht]
        simp
      · have e' : (x != -l) = true := by simpa using e
        rw [e', Bool.true_and]
    · rw [if_neg (by decide)]
      have : k.any (litT (bitsM n b)) = true := List.any_eq_true.2 ⟨l, hasB_mem.1 hk, ht⟩
      rw [this, Bool.true_and]
theorem cnt_assign {n : Nat} {l : Int} {g : List (List Int)} (h : litB n l = true) (hg : AllLits n g) : cntTo n (assignL l g) (2 ^ n) = 2 * (List.range (2 ^ n)).countP fun b => holdsB g (bitsM n b) && litT (bitsM n b) l := by
  have hb := lit_bds h
  rw [cnt_eq, count_split _ _ fun b => litT (bitsM n b) l]
  have e1 : (List.range (2 ^ n)).countP (fun b => holdsB (assignL l g) (bitsM n b) && !litT (bitsM n b) l) = (List.range (2 ^ n)).countP (fun b => holdsB (assignL l g) (bitsM n b) && litT (bitsM n b) l) := by
    rw [← count_flip (i := l.natAbs - 1) (by omega) fun b => holdsB (assignL l g) (bitsM n b) && litT (bitsM n b) l]
    refine count_congr fun b _ => ?_
    rw [assign_flip h hg, litT_flip h]
  have e2 : (List.range (2 ^ n)).countP (fun b => holdsB (assignL l g) (bitsM n b) && litT (bitsM n b) l) = (List.range (2 ^ n)).countP (fun b => holdsB g (bitsM n b) && litT (bitsM n b) l) := by
    refine count_congr fun b _ => ?_
    cases ht : litT (bitsM n b) l
    · rw [Bool.and_false, Bool.and_false]
    · rw [assign_true h ht]
  rw [e1, e2]; omega
/-- As many as by both values of a variable, divided by 2. -/
theorem cnt_both {n : Nat} {v : Int} {g : List (List Int)} (h : litB n v = true) (hg : AllLits n g) : cntTo n (assignL v g) (2 ^ n) + cntTo n (assignL (-v) g) (2 ^ n) = 2 * cntTo n g (2 ^ n) := by
  have hb := lit_bds h
  have h' : litB n (-v) = true := by unfold litB; apply decide_eq_true; omega
  rw [cnt_assign h hg, cnt_assign h' hg, cnt_eq n g, count_split _ (fun b => holdsB g (bitsM n b)) fun b => litT (bitsM n b) v]
  have e : (List.range (2 ^ n)).countP (fun b => holdsB g (bitsM n b) && litT (bitsM n b) (-v)) = (List.range (2 ^ n)).countP (fun b => holdsB g (bitsM n b) && !litT (bitsM n b) v) :=
    count_congr fun b _ => by rw [litT_neg h]
  rw [e]; omega
end Go.Proofs.Ytahaoddilejpnaa
