/- Plain facts on the bytes of a table: what is read back is what was written, and nothing else is read. No program in sight. -/
import Derived.Test.YtmhneonebjcieaaP1
namespace Go.Proofs.Ytmhneonebjcieaa

/-- The bytes of a number. -/
def grp (n : Nat) : List Nat := if n < 128 then [n] else (n % 128 + 128) :: grp (n / 128)
termination_by n
decreasing_by omega
theorem grp_lt {n : Nat} (h : n < 128) : grp n = [n] := by rw [grp, if_pos h]
theorem grp_ge {n : Nat} (h : 128 ≤ n) : grp n = (n % 128 + 128) :: grp (n / 128) := by rw [grp, if_neg (by omega)]
theorem grp_byte (f : Nat) : ∀ n, n < 128 ^ f → ∀ b ∈ grp n, b < 256 := by
  induction f with
  | zero => intro n hn b hb; rw [grp_lt (by omega)] at hb; simp at hb; omega
  | succ f ih =>
    intro n hn b hb
    by_cases h : n < 128
    · rw [grp_lt h] at hb; simp at hb; omega
    · rw [grp_ge (by omega)] at hb
      rcases List.mem_cons.1 hb with rfl | hb
      · omega
      · exact ih (n / 128) (by rw [Nat.pow_succ] at hn; exact Nat.div_lt_of_lt_mul (by rw [Nat.mul_comm]; exact hn)) b hb
theorem grp_len (f : Nat) : ∀ n, n < 128 ^ (f + 1) → (grp n).length ≤ f + 1 := by
  induction f with
  | zero => intro n hn; rw [grp_lt (by omega)]; simp
  | succ f ih =>
    intro n hn
    by_cases h : n < 128
    · rw [grp_lt h]; simp
    · rw [grp_ge (by omega)]
      have := ih (n / 128) (by rw [Nat.pow_succ] at hn; exact Nat.div_lt_of_lt_mul (by rw [Nat.mul_comm]; exact hn))
      simp only [List.length_cons]; omega
theorem grp_ne (n : Nat) : grp n ≠ [] := by
  by_cases h : n < 128
  · rw [grp_lt h]; simp
  · rw [grp_ge (by omega)]; simp

/-- A number is read: it, whether its last byte is zero, and the rest. -/
def scan : Nat → List Nat → Option (Nat × Bool × List Nat)
  | 0, _ => none
  | _ + 1, [] => none
  | f + 1, b :: r => if b < 128 then some (b, decide (b = 0), r) else (scan f r).map fun x => (b % 128 + 128 * x.1, x.2.1, x.2.2)
structure TSt where
  wrong : Bool
  rest : List Nat
/-- What take gives and leaves. -/
def takeN (s : TSt) : Nat := match scan 5 s.rest with
  | none => 0
  | some x => x.1
def longB (s : TSt) : Bool := decide (128 ≤ s.rest.headD 0)
def takeS (s : TSt) : TSt := match scan 5 s.rest with
  | none => ⟨true, s.rest⟩
  | some x => ⟨s.wrong || (longB s && x.2.1), x.2.2⟩
theorem scan_lt : ∀ (f : Nat) (r : List Nat) (x : Nat × Bool × List Nat), scan f r = some x → x.1 < 128 ^ f
  | 0, _, _, h => by simp [scan] at h
  | _ + 1, [], _, h => by simp [scan] at h
  | f + 1, b :: r, x, h => by
    unfold scan at h
    split at h
    · simp only [Option.some.injEq] at h
      subst h
      have : 0 < 128 ^ f := Nat.pow_pos (by omega)
      rw [Nat.pow_succ]
      show b < _
      omega
    · rw [Option.map_eq_some_iff] at h
      obtain ⟨y, hy, rfl⟩ := h
      have := scan_lt f r y hy
      rw [Nat.pow_succ]
      show b % 128 + 128 * y.1 < _
      omega
theorem takeN_lt (s : TSt) : takeN s < 34359738368 := by
  unfold takeN
  split
  · omega
  · rename_i x h
    have := scan_lt 5 _ _ h
    simpa using this
/-- What was written is read back. -/
theorem scan_grp : ∀ (f n : Nat) (r : List Nat), n < 128 ^ (f + 1) → scan (f + 1) (grp n ++ r) = some (n, decide (n = 0), r)
  | f, n, r, h => by
    by_cases hn : n < 128
    · rw [grp_lt hn]
      show (if n < 128 then _ else _) = _
      rw [if_pos hn]
      rfl
    · match f, h with
      | 0, h => exact absurd h (by simpa using hn)
      | f + 1, h =>
        rw [grp_ge (by omega)]
        show (if n % 128 + 128 < 128 then _ else (scan (f + 1) (grp (n / 128) ++ r)).map _) = _
        rw [if_neg (by omega), scan_grp f (n / 128) r (by rw [Nat.pow_succ] at h; exact Nat.div_lt_of_lt_mul (by rw [Nat.mul_comm]; exact h))]
        have e1 : (n % 128 + 128) % 128 + 128 * (n / 128) = n := by omega
        have e2 : decide (n / 128 = 0) = decide (n = 0) := by
          rw [decide_eq_false (by omega), decide_eq_false (by omega)]
        simp only [Option.map_some, e1, e2]
theorem take_grp {n : Nat} (hn : n < 34359738368) (r : List Nat) : takeN ⟨false, grp n ++ r⟩ = n ∧ takeS ⟨false, grp n ++ r⟩ = ⟨false, r⟩ := by
  have h := scan_grp 4 n r (by simpa using hn)
  unfold takeN takeS
  rw [h]
  refine ⟨rfl, ?_⟩
  by_cases h0 : n = 0
  · subst h0
    have : longB ⟨false, grp 0 ++ r⟩ = false := by unfold longB; rw [grp_lt (by omega)]; rfl
    rw [this]; rfl
  · rw [decide_eq_false h0]
    simp
/-- What is read without a fault was written. -/
theorem scan_back : ∀ (f : Nat) (l : List Nat) (x : Nat × Bool × List Nat), (∀ b ∈ l, b < 256) → scan f l = some x → (decide (128 ≤ l.headD 0) && x.2.1) = false → l = grp x.1 ++ x.2.2 ∧ (x.2.1 = false → x.1 ≠ 0)
  | 0, _, _, _, h, _ => by simp [scan] at h
  | _ + 1, [], _, _, h, _ => by simp [scan] at h
  | f + 1, b :: r, x, hb, h, hz => by
    unfold scan at h
    have hb0 := hb b (by simp)
    split at h
    · rename_i hlt
      simp only [Option.some.injEq] at h
      subst h
      refine ⟨by rw [grp_lt hlt]; rfl, fun h => ?_⟩
      simpa using h
    · rename_i hge
      rw [Option.map_eq_some_iff] at h
      obtain ⟨y, hy, rfl⟩ := h
      have hz : y.2.1 = false := by
        rw [List.headD_cons, decide_eq_true (by omega), Bool.true_and] at hz
        exact hz
      have := scan_back f r y (fun c hc => hb c (by simp [hc])) hy (by rw [hz, Bool.and_false])
      have hne := this.2 hz
      refine ⟨?_, fun _ => ?_⟩
      · show b :: r = grp (b % 128 + 128 * y.1) ++ y.2.2
        rw [grp_ge (by omega), show (b % 128 + 128 * y.1) / 128 = y.1 by omega, show (b % 128 + 128 * y.1) % 128 + 128 = b by omega, List.cons_append, ← this.1]
      · show b % 128 + 128 * y.1 ≠ 0
        omega
theorem take_back {s : TSt} (hb : ∀ b ∈ s.rest, b < 256) (h : (takeS s).wrong = false) : s.wrong = false ∧ s.rest = grp (takeN s) ++ (takeS s).rest := by
  unfold takeS at *
  unfold takeN
  split at h
  · cases h
  · rename_i x hx
    simp only [Bool.or_eq_false_iff] at h
    exact ⟨h.1, (scan_back 5 s.rest x hb hx h.2).1⟩
theorem scan_sub : ∀ (f : Nat) (r : List Nat) (x : Nat × Bool × List Nat), scan f r = some x → ∀ b ∈ x.2.2, b ∈ r
  | 0, _, _, h => by simp [scan] at h
  | _ + 1, [], _, h => by simp [scan] at h
  | f + 1, c :: r, x, h => by
    unfold scan at h
    split at h
    · simp only [Option.some.injEq] at h
      subst h
      intro b hb; exact List.mem_cons_of_mem _ hb
    · rw [Option.map_eq_some_iff] at h
      obtain ⟨y, hy, rfl⟩ := h
      intro b hb; exact List.mem_cons_of_mem _ (scan_sub f r y hy b hb)
theorem take_sub (s : TSt) : ∀ b ∈ (takeS s).rest, b ∈ s.rest := by
  unfold takeS
  split
  · exact fun b hb => hb
  · rename_i x h
    exact scan_sub 5 _ _ h

/-- The numbers of a table. -/
def fieldsP (last : Int) (p : Pl) : List Nat := [(p.fr - last).toNat, (p.to - p.fr).toNat, p.va.toNat, p.ki.toNat, p.nn.toNat]
def numsP (last : Int) : List Pl → List Nat
  | [] => []
  | p :: l => fieldsP last p ++ numsP p.fr l
def encB (l : List Pl) : List Nat := grp l.length ++ (numsP 0 l).flatMap grp

/-- What Decode reads. -/
def readP (last : Int) (s : TSt) : Pl × TSt :=
  let a := takeN s; let s1 := takeS s
  let b := takeN s1; let s2 := takeS s1
  let c := takeN s2; let s3 := takeS s2
  let d := takeN s3; let s4 := takeS s3
  let e := takeN s4; let s5 := takeS s4
  (⟨last + a, last + a + b, c, d, e⟩, s5)
def readL : Nat → Int → TSt → List Pl × TSt
  | 0, _, s => ([], s)
  | n + 1, last, s => let x := readP last s; let y := readL n x.1.fr x.2; (x.1 :: y.1, y.2)
def decR (b : List Nat) : Option (List Pl) :=
  let s : TSt := ⟨false, b⟩
  if (takeS s).wrong || decide (64 < takeN s) then none
  else let y := readL (takeN s) 0 (takeS s)
    if y.2.wrong || !y.2.rest.isEmpty || decide (valE y.1 ≠ 0) then none else some y.1
theorem wrong_take {s : TSt} (h : (takeS s).wrong = false) : s.wrong = false := by
  unfold takeS at h
  split at h
  · cases h
  · simp only [Bool.or_eq_false_iff] at h
    exact h.1
theorem readP_back {last : Int} {s : TSt} (hb : ∀ b ∈ s.rest, b < 256) (h : (readP last s).2.wrong = false) :
    s.wrong = false ∧ s.rest = (fieldsP last (readP last s).1).flatMap grp ++ (readP last s).2.rest ∧ ∀ b ∈ (readP last s).2.rest, b < 256 := by
  unfold readP at *
  simp only at *
  have b1 : ∀ b ∈ (takeS s).rest, b < 256 := fun b hb' => hb b (take_sub s b hb')
  have b2 : ∀ b ∈ (takeS (takeS s)).rest, b < 256 := fun b hb' => b1 b (take_sub _ b hb')
  have b3 : ∀ b ∈ (takeS (takeS (takeS s))).rest, b < 256 := fun b hb' => b2 b (take_sub _ b hb')
  have b4 : ∀ b ∈ (takeS (takeS (takeS (takeS s)))).rest, b < 256 := fun b hb' => b3 b (take_sub _ b hb')
  have b5 : ∀ b ∈ (takeS (takeS (takeS (takeS (takeS s))))).rest, b < 256 := fun b hb' => b4 b (take_sub _ b hb')
  have t5 := take_back b4 h
  have t4 := take_back b3 t5.1
  have t3 := take_back b2 t4.1
  have t2 := take_back b1 t3.1
  have t1 := take_back hb t2.1
  refine ⟨t1.1, ?_, b5⟩
  unfold fieldsP
  simp only [List.flatMap_cons, List.flatMap_nil, List.append_nil, List.append_assoc]
  rw [show (last + (takeN s : Int) - last).toNat = takeN s by omega, show (last + (takeN s : Int) + (takeN (takeS s) : Int) - (last + (takeN s : Int))).toNat = takeN (takeS s) by omega]
  simp only [Int.toNat_natCast]
  rw [← t5.2, ← t4.2, ← t3.2, ← t2.2, ← t1.2]
theorem readL_back : ∀ (n : Nat) (last : Int) (s : TSt), (∀ b ∈ s.rest, b < 256) → (readL n last s).2.wrong = false →
    s.wrong = false ∧ s.rest = (numsP last (readL n last s).1).flatMap grp ++ (readL n last s).2.rest ∧ (readL n last s).1.length = n
  | 0, _, s, _, h => ⟨h, rfl, rfl⟩
  | n + 1, last, s, hb, h => by
    unfold readL at h
    simp only at h
    have hr := fun hw => readP_back (last := last) hb hw
    have hw : (readP last s).2.wrong = false := by
      cases hc : (readP last s).2.wrong
      · rfl
      · exfalso
        have : ∀ (n : Nat) (last : Int) (s : TSt), s.wrong = true → (readL n last s).2.wrong = true := by
          have tw : ∀ s : TSt, s.wrong = true → (takeS s).wrong = true := fun s hs => by
            unfold takeS
            split
            · rfl
            · simp [hs]
          intro n
          induction n with
          | zero => intro last s hs; exact hs
          | succ n ih =>
            intro last s hs
            exact ih _ _ (tw _ (tw _ (tw _ (tw _ (tw _ hs)))))
        rw [this _ _ _ hc] at h
        cases h
    obtain ⟨h1, h2, h3⟩ := hr hw
    obtain ⟨_, h5, h6⟩ := readL_back n (readP last s).1.fr (readP last s).2 h3 h
    refine ⟨h1, ?_, ?_⟩
    · show s.rest = ((fieldsP last (readP last s).1) ++ numsP (readP last s).1.fr (readL n (readP last s).1.fr (readP last s).2).1).flatMap grp ++ (readL n (readP last s).1.fr (readP last s).2).2.rest
      rw [List.flatMap_append, List.append_assoc, ← h5]
      exact h2
    · show (readL n (readP last s).1.fr (readP last s).2).1.length + 1 = n + 1
      rw [h6]
theorem readP_fore {last : Int} {p : Pl} {r : List Nat} (hg : Good p) (h0 : 0 ≤ last) (hl : last ≤ p.fr) : readP last ⟨false, (fieldsP last p).flatMap grp ++ r⟩ = (p, ⟨false, r⟩) := by
  obtain ⟨f0, ft, t1, v0, v1, k0, k1, n0, n1⟩ := hg
  have hn := limK_le p.ki
  unfold fieldsP
  simp only [List.flatMap_cons, List.flatMap_nil, List.append_nil, List.append_assoc]
  unfold readP
  simp only
  have t1' := take_grp (n := (p.fr - last).toNat) (by omega)
  have t2' := take_grp (n := (p.to - p.fr).toNat) (by omega)
  have t3' := take_grp (n := p.va.toNat) (by omega)
  have t4' := take_grp (n := p.ki.toNat) (by omega)
  have t5' := take_grp (n := p.nn.toNat) (by omega)
  rw [(t1' _).2, (t2' _).2, (t3' _).2, (t4' _).2, (t5' _).2, (t1' _).1, (t2' _).1, (t3' _).1, (t4' _).1, (t5' _).1]
  rw [Prod.mk.injEq]
  refine ⟨Pl.ext' ?_ ?_ ?_ ?_ ?_, rfl⟩
  all_goals simp only
  all_goals omega
theorem readL_fore : ∀ (l : List Pl) (last : Int) (r : List Nat), (∀ p ∈ l, Good p) → 0 ≤ last → l.Pairwise (fun p q => p.fr ≤ q.fr) → (∀ p ∈ l, last ≤ p.fr) → readL l.length last ⟨false, (numsP last l).flatMap grp ++ r⟩ = (l, ⟨false, r⟩)
  | [], _, _, _, _, _, _ => rfl
  | p :: l, last, r, hg, h0, ho, hl => by
    rw [List.pairwise_cons] at ho
    show (let x := readP last ⟨false, (fieldsP last p ++ numsP p.fr l).flatMap grp ++ r⟩; let y := readL l.length x.1.fr x.2; (x.1 :: y.1, y.2)) = _
    rw [List.flatMap_append, List.append_assoc, readP_fore (hg p (by simp)) h0 (hl p (by simp))]
    have hp := hg p (by simp)
    have := readL_fore l p.fr r (fun q hq => hg q (by simp [hq])) (by have := hp.f0; omega) ho.2 (fun q hq => ho.1 q hq)
    simp only [this]
theorem Table.step {l : List Pl} (h : Table l) : ∀ (d i : Nat), i + d < l.length → (at' l i).fr ≤ (at' l (i + d)).fr
  | 0, _, _ => by simp
  | d + 1, i, hd => by
    have h1 := h.step d i (by omega)
    have h2 := h.asc (i + d) (by omega)
    rw [ltP_iff] at h2
    rw [← Nat.add_assoc]
    omega
theorem Table.pair {l : List Pl} (h : Table l) : l.Pairwise (fun p q => p.fr ≤ q.fr) := by
  rw [List.pairwise_iff_getElem]
  intro i j hi hj hij
  have := h.step (j - i) i (by omega)
  rw [show i + (j - i) = j by omega] at this
  unfold at' at this
  rw [List.getD_eq_getElem?_getD, List.getD_eq_getElem?_getD, List.getElem?_eq_getElem hi, List.getElem?_eq_getElem hj] at this
  exact this
theorem decR_enc {l : List Pl} (h : Table l) : decR (encB l) = some l := by
  have hlen := h.len
  have ht := take_grp (n := l.length) (by omega) ((numsP 0 l).flatMap grp)
  have hr := readL_fore l 0 [] (fun p hp => h.mem hp) (Int.le_refl _) h.pair (fun p hp => (h.mem hp).f0)
  rw [List.append_nil] at hr
  unfold decR encB
  simp only
  rw [ht.1, ht.2, hr, valE_zero.2 h]
  simp
  omega
theorem decR_back {b : List Nat} {l : List Pl} (hb : ∀ x ∈ b, x < 256) (h : decR b = some l) : Table l ∧ encB l = b := by
  unfold decR at h
  simp only at h
  split at h
  · cases h
  · rename_i h1
    split at h
    · cases h
    · rename_i h2
      simp only [Option.some.injEq] at h
      rw [Bool.or_eq_true, not_or] at h1
      rw [Bool.or_eq_true, Bool.or_eq_true, not_or, not_or] at h2
      have hw0 : (takeS ⟨false, b⟩).wrong = false := by simpa using h1.1
      obtain ⟨_, e1⟩ := take_back (s := ⟨false, b⟩) hb hw0
      obtain ⟨_, e2, e3⟩ := readL_back (takeN ⟨false, b⟩) 0 (takeS ⟨false, b⟩) (fun x hx => hb x (take_sub _ x hx)) (by simpa using h2.1.1)
      have er : (readL (takeN ⟨false, b⟩) 0 (takeS ⟨false, b⟩)).2.rest = [] := by simpa using h2.1.2
      have ev : valE l = 0 := by rw [← h]; simpa using h2.2
      rw [h] at e2 e3
      rw [er, List.append_nil] at e2
      refine ⟨valE_zero.1 ev, ?_⟩
      unfold encB
      rw [e3, ← e2, ← e1]
theorem encB_inj {l m : List Pl} (hl : Table l) (hm : Table m) (h : encB l = encB m) : l = m := by
  have := decR_enc hl
  rw [h, decR_enc hm] at this
  simpa using this.symm
end Go.Proofs.Ytmhneonebjcieaa
