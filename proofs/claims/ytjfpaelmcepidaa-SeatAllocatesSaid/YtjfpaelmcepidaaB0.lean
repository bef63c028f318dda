/- Programs with few registers, plainly (the simulation): alloc_run. -/
import Derived.Test.YtjfpaelmcepidaaA2
import Derived.Lib.EndianBits
import Derived.Test.YtjfpaelmcepidaaM1
namespace Go.Proofs.Ytjfpaelmcepidaa.PK
open Go.RowKit

theorem or_comm_u32 {x y : Int} (hx : isW x) (hy : isW y) : bits .or .u32 x y = bits .or .u32 y x := by
  obtain ⟨a, rfl⟩ := Int.eq_ofNat_of_zero_le hx.1
  obtain ⟨b, rfl⟩ := Int.eq_ofNat_of_zero_le hy.1
  have ha : a < 2 ^ 32 := by have := hx.2; omega
  have hb : b < 2 ^ 32 := by have := hy.2; omega
  have hk : ∀ n : Int, 0 ≤ n → n < 2 ^ 32 → IntKind.u32.wrap n = n := fun n h0 h1 => wraps_u32 n h0 h1
  rw [(bits_nat .u32 32 (Nat.le_refl _) hk a b ha hb).2, (bits_nat .u32 32 (Nat.le_refl _) hk b a hb ha).2, Nat.or_comm]
theorem or_low {x y : Int} (hx : isW x) (hm : x % 256 = 0) (hy : isB y) : bits .or .u32 x y = x + y := by
  have h1 := hy.1; have h2 := hy.2
  rw [or_comm_u32 hx ⟨by omega, by omega⟩, u32_or8 (hy₀ := h1) (hy := h2) (hx₀ := hx.1) (hx := hm) (hx₁ := hx.2)]
  omega
theorem wrD_get (mem : List Int) (a : Nat) (n : Int) : ∀ i j, (wrD mem a n i).getD j 0 = if a ≤ j ∧ j < a + i ∧ j < mem.length then n / 2 ^ (8 * (j - a)) % 256 else mem.getD j 0
  | 0, j => by rw [if_neg (by omega)]; rfl
  | i + 1, j => by
    have ih := wrD_get mem a n i j
    have hl := wrD_len mem a n i
    show ((wrD mem a n i).set (a + i) _).getD j 0 = _
    rw [List.getD_eq_getElem?_getD, List.getElem?_set]
    by_cases c : a + i = j
    · rw [if_pos c]
      by_cases h : j < mem.length
      · rw [if_pos (by rw [hl]; omega), if_pos (by omega), show j - a = i by omega]; rfl
      · rw [if_neg (by rw [hl]; omega), if_neg (by omega), List.getD_eq_getElem?_getD, List.getElem?_eq_none (by omega)]
    · rw [if_neg c, ← List.getD_eq_getElem?_getD, ih]
      by_cases h : a ≤ j ∧ j < a + i ∧ j < mem.length
      · rw [if_pos h, if_pos (by omega)]
      · rw [if_neg h, if_neg (by omega)]
theorem wrF_out {mem : List Int} {a many j : Nat} {n : Int} (h : j < a ∨ a + many ≤ j) : (wrF mem a many n).getD j 0 = mem.getD j 0 := by
  unfold wrF
  rw [wrD_get, if_neg (by omega)]
theorem wrF_len (mem : List Int) (a many : Nat) (n : Int) : (wrF mem a many n).length = mem.length := wrD_len _ _ _ _
theorem rdD_congr {mem mem' : List Int} {a many : Nat} (h : ∀ j, a ≤ j → j < a + many → mem'.getD j 0 = mem.getD j 0) : ∀ d, d ≤ many → rdD mem' a many d = rdD mem a many d
  | 0, _ => rfl
  | d + 1, hd => by
    show bits _ _ _ _ = bits _ _ _ _
    rw [rdD_congr h d (by omega), h (a + (many - (d + 1))) (by omega) (by omega)]
theorem rdF_congr {mem mem' : List Int} {a many : Nat} (h : ∀ j, a ≤ j → j < a + many → mem'.getD j 0 = mem.getD j 0) : rdF mem' a many = rdF mem a many := rdD_congr h many (Nat.le_refl _)
/-- A word that has been written is read. -/
theorem rd_wr {mem : List Int} {a : Nat} {v : Int} (hv : isW v) (hl : a + 4 ≤ mem.length) : rdF (wrF mem a 4 v) a 4 = v := by
  obtain ⟨h0, h1⟩ := hv
  have g : ∀ i, i < 4 → (wrF mem a 4 v).getD (a + i) 0 = v / 2 ^ (8 * i) % 256 := fun i hi => by
    unfold wrF
    rw [wrD_get, if_pos (by omega), show a + i - a = i by omega]
  have g0 := g 0 (by omega); have g1 := g 1 (by omega); have g2 := g 2 (by omega); have g3 := g 3 (by omega)
  rw [show (2 : Int) ^ (8 * 0) = 1 by decide] at g0
  rw [show (2 : Int) ^ (8 * 1) = 256 by decide] at g1
  rw [show (2 : Int) ^ (8 * 2) = 65536 by decide] at g2
  rw [show (2 : Int) ^ (8 * 3) = 16777216 by decide] at g3
  have e1 : rdD (wrF mem a 4 v) a 4 1 = v / 16777216 % 256 := by
    show bits .or .u32 (0 * 256 % 4294967296) ((wrF mem a 4 v).getD (a + 3) 0) = _
    rw [g3, or_low ⟨by decide, by decide⟩ (by decide) ⟨by omega, by omega⟩]; omega
  have e2 : rdD (wrF mem a 4 v) a 4 2 = v / 65536 := by
    show bits .or .u32 (rdD (wrF mem a 4 v) a 4 1 * 256 % 4294967296) ((wrF mem a 4 v).getD (a + 2) 0) = _
    rw [e1, g2, or_low ⟨by omega, by omega⟩ (by omega) ⟨by omega, by omega⟩]; omega
  have e3 : rdD (wrF mem a 4 v) a 4 3 = v / 256 := by
    show bits .or .u32 (rdD (wrF mem a 4 v) a 4 2 * 256 % 4294967296) ((wrF mem a 4 v).getD (a + 1) 0) = _
    rw [e2, g1, or_low ⟨by omega, by omega⟩ (by omega) ⟨by omega, by omega⟩]; omega
  show bits .or .u32 (rdD (wrF mem a 4 v) a 4 3 * 256 % 4294967296) ((wrF mem a 4 v).getD (a + 0) 0) = _
  rw [e3, g0, or_low ⟨by omega, by omega⟩ (by omega) ⟨by omega, by omega⟩]; omega
/-- The memories are equal but for the first places of the frame. -/
def MemEq (places : Nat) (m m' : List Int) : Prop := m'.length = m.length ∧ ∀ j, (j < 1024 ∨ 1024 + 4 * places ≤ j) → m'.getD j 0 = m.getD j 0
theorem MemEq.refl (p : Nat) (m : List Int) : MemEq p m m := ⟨rfl, fun _ _ => rfl⟩
/-- A word written into the frame. -/
theorem MemEq.frame {places : Nat} {m m' : List Int} (h : MemEq places m m') {p : Nat} (hp : p < places) (v : Int) : MemEq places m (wrF m' (1024 + 4 * p) 4 v) :=
  ⟨by rw [wrF_len]; exact h.1, fun j hj => by rw [wrF_out (by omega)]; exact h.2 j hj⟩
/-- The same written into both, before the frame. -/
theorem MemEq.both {places : Nat} {m m' : List Int} (h : MemEq places m m') {a many : Nat} (v : Int) : MemEq places (wrF m a many v) (wrF m' a many v) := by
  refine ⟨by rw [wrF_len, wrF_len]; exact h.1, fun j hj => ?_⟩
  unfold wrF
  rw [wrD_get, wrD_get, h.1]
  by_cases c : a ≤ j ∧ j < a + many ∧ j < m.length
  · rw [if_pos c, if_pos c]
  · rw [if_neg c, if_neg c]; exact h.2 j hj
theorem MemEq.rd {places : Nat} {m m' : List Int} (h : MemEq places m m') {a many : Nat} (ha : a + many ≤ 1024) : rdF m' a many = rdF m a many := rdF_congr fun j _ h2 => h.2 j (by omega)
end Go.Proofs.Ytjfpaelmcepidaa.PK
namespace Go.Proofs.Ytjfpaelmcepidaa.PK
open Go.RowKit

/-- Where registers are: in one of a few, in the frame, or made anew as a number. -/
structure Seats where
  col : Int → Option Int
  frm : Int → Option Int
  num : Int → Option Nat
  k : Nat
def cLi (d : Int) (n : Nat) : Cd := ⟨0, d, 0, 0, n, 0⟩
def cLw (d p : Int) : Cd := ⟨20, d, -1, 0, 1024 + 4 * p.toNat, 0⟩
def cSw (b p : Int) : Cd := ⟨23, 0, -1, b, 1024 + 4 * p.toNat, 0⟩
def readS (s : Seats) (r spare : Int) : Int × List Cd :=
  match s.col r with
  | some c => (c, [])
  | none => match s.num r with
    | some n => (spare, [cLi spare n])
    | none => (spare, [cLw spare ((s.frm r).getD 0)])
def writeS (s : Seats) (r : Int) : Int × List Cd :=
  match s.col r with
  | some c => (c, [])
  | none => match s.frm r with
    | some p => (s.k, [cSw s.k p])
    | none => (s.k, [])
def opndA (s : Seats) (x : Cd) : Int × List Cd := if (fA x.op && decide (0 ≤ x.a)) = true then readS s x.a s.k else (x.a, [])
def opndB (s : Seats) (x : Cd) : Int × List Cd := if fB x.op = true then readS s x.b (s.k + 1) else (x.b, [])
def opndD (s : Seats) (x : Cd) : Int × List Cd := if fD x.op = true then writeS s x.d else (x.d, [])
def mainS (s : Seats) (x : Cd) : Cd := ⟨x.op, (opndD s x).1, (opndA s x).1, (opndB s x).1, x.im, x.to⟩
def codeS (s : Seats) (x : Cd) : List Cd :=
  if (fD x.op && (s.num x.d).isSome) = true then [] else (opndA s x).2 ++ ((opndB s x).2 ++ (mainS s x :: (opndD s x).2))
/-- An instruction of a block that lies further behind. -/
def shX (sh : Nat) (x : Cd) : Cd := if fT x.op = true then ⟨x.op, x.d, x.a, x.b, x.im, x.to + sh⟩ else x
def blockS (s : Seats) (sh : Nat) (l : List Cd) : List Cd := l.flatMap fun x => codeS s (shX sh x)
def offS (s : Seats) (sh : Nat) (l : List Cd) (i : Nat) : Nat := (blockS s sh (l.take i)).length
theorem offS_zero (s : Seats) (sh : Nat) (l : List Cd) : offS s sh l 0 = 0 := rfl
theorem offS_next {s : Seats} {sh : Nat} {l : List Cd} {i : Nat} (h : i < l.length) : offS s sh l (i + 1) = offS s sh l i + (codeS s (shX sh (atC l i))).length := by
  unfold offS blockS
  rw [List.take_succ_eq_append_getElem h, List.flatMap_append, List.length_append, ← atC_get h]
  simp
theorem atC_right {l m : List Cd} {j : Nat} : atC (l ++ m) (l.length + j) = atC m j := by
  unfold atC
  rw [List.getD_eq_getElem?_getD, List.getElem?_append_right (by omega), List.getD_eq_getElem?_getD]
  congr 2; omega
theorem atC_left {l m : List Cd} {j : Nat} (h : j < l.length) : atC (l ++ m) j = atC l j := by
  unfold atC
  rw [List.getD_eq_getElem?_getD, List.getElem?_append_left h, List.getD_eq_getElem?_getD]
/-- The code of instruction i lies at its place. -/
theorem blockS_at {s : Seats} {sh : Nat} {l : List Cd} {i j : Nat} (h : i < l.length) (hj : j < (codeS s (shX sh (atC l i))).length) : atC (blockS s sh l) (offS s sh l i + j) = atC (codeS s (shX sh (atC l i))) j := by
  have e : blockS s sh l = blockS s sh (l.take i) ++ (codeS s (shX sh (atC l i)) ++ blockS s sh (l.drop (i + 1))) := by
    unfold blockS
    conv => lhs; rw [← List.take_append_drop i l]
    rw [List.flatMap_append, List.drop_eq_getElem_cons h, List.flatMap_cons, ← atC_get h]
  rw [e]
  unfold offS
  rw [atC_right, atC_left hj]
/-- What an instruction does. -/
inductive Eff where
  | put (v : Int)
  | sto (m : List Int)
  | jmp
  | nxt
  | fin (e : Int)
  | brk
  | flt
def effM (op a b : Int) (im : Nat) (mem : List Int) : Eff :=
  if fM op = true then
    if mem.length < ((a + im) % 4294967296).toNat + nB op then .flt
    else if 21 ≤ op then .sto (wrF mem ((a + im) % 4294967296).toNat (nB op) b) else .put (rdF mem ((a + im) % 4294967296).toNat (nB op))
  else if op = 0 then .put im
  else if op = 1 then .put a
  else if op ≤ 17 then if brkF op a b = true then .brk else .put (resF op a b)
  else if op = 24 ∨ (op = 25 ∧ a ≠ 0) then .jmp
  else if op = 26 then .fin 1
  else if op = 27 then .fin 2
  else .nxt
def doE (s : Mach) (x : Cd) (n : Nat) : Eff → Run
  | .put v => .on { s with rg := s.rg.set x.d.toNat v, pc := s.pc + 1 }
  | .sto m => .on { s with mem := m, pc := s.pc + 1 }
  | .jmp => .on { s with blk := x.to.toNat, pc := 0 }
  | .nxt => .on { s with pc := s.pc + 1 }
  | .fin e => .out s.mem e (n + 1) s.tch
  | .brk => .out s.mem 5 n s.tch
  | .flt => .out s.mem 3 n s.tch
theorem tch_none (s : Mach) (x : Cd) : tchB s x 0 0 = s.tch := by
  unfold tchB
  rw [decide_eq_false (show ¬ (plc s x : Int) < 0 by omega), Bool.false_and, Bool.or_false]
theorem step_eff (s : Mach) (x : Cd) (n : Nat) : stepM s x 0 0 n = doE s x n (effM x.op (opA s x) (opB s x) x.im s.mem) := by
  unfold stepM effM
  rw [tch_none]
  unfold plc putR
  by_cases h0 : fM x.op = true
  · rw [if_pos h0, if_pos h0]
    by_cases h1 : s.mem.length < ((opA s x + x.im) % 4294967296).toNat + nB x.op
    · rw [if_pos h1, if_pos h1]; rfl
    · rw [if_neg h1, if_neg h1]
      by_cases h2 : 21 ≤ x.op
      · rw [if_pos h2, if_pos h2]; rfl
      · rw [if_neg h2, if_neg h2]; rfl
  · rw [if_neg h0, if_neg h0]
    by_cases h1 : x.op = 0
    · rw [if_pos h1, if_pos h1]; rfl
    · rw [if_neg h1, if_neg h1]
      by_cases h2 : x.op = 1
      · rw [if_pos h2, if_pos h2]; rfl
      · rw [if_neg h2, if_neg h2]
        by_cases h3 : x.op ≤ 17
        · rw [if_pos h3, if_pos h3]
          by_cases h4 : brkF x.op (opA s x) (opB s x) = true
          · rw [if_pos h4, if_pos h4]; rfl
          · rw [if_neg h4, if_neg h4]; rfl
        · rw [if_neg h3, if_neg h3]
          by_cases h5 : x.op = 24 ∨ (x.op = 25 ∧ opA s x ≠ 0)
          · rw [if_pos h5, if_pos h5]; rfl
          · rw [if_neg h5, if_neg h5]
            by_cases h6 : x.op = 26
            · rw [if_pos h6, if_pos h6]; rfl
            · rw [if_neg h6, if_neg h6]
              by_cases h7 : x.op = 27
              · rw [if_pos h7, if_pos h7]; rfl
              · rw [if_neg h7, if_neg h7]; rfl
/-- Which effects an operation has. -/
theorem eff_kind {op a b : Int} {im : Nat} {mem : List Int} (ho : 0 ≤ op ∧ op ≤ 27) :
    (∃ v, effM op a b im mem = .put v ∧ fD op = true) ∨ (∃ m, effM op a b im mem = .sto m ∧ 21 ≤ op ∧ op ≤ 23) ∨ (effM op a b im mem = .jmp ∧ fT op = true) ∨ (effM op a b im mem = .nxt ∧ op = 25) ∨ (∃ e, effM op a b im mem = .fin e ∧ (op = 26 ∨ op = 27)) ∨ effM op a b im mem = .brk ∨ effM op a b im mem = .flt := by
  unfold effM
  split
  · rename_i h
    unfold fM at h
    have h := of_decide_eq_true h
    split
    · simp
    · split
      · exact .inr (.inl ⟨_, rfl, by omega⟩)
      · exact .inl ⟨_, rfl, by unfold fD; exact decide_eq_true (by omega)⟩
  · rename_i h0
    have h : ¬ (18 ≤ op ∧ op ≤ 23) := fun c => h0 (by unfold fM; exact decide_eq_true c)
    split
    · exact .inl ⟨_, rfl, by unfold fD; exact decide_eq_true (by omega)⟩
    · split
      · exact .inl ⟨_, rfl, by unfold fD; exact decide_eq_true (by omega)⟩
      · split
        · split
          · simp
          · exact .inl ⟨_, rfl, by unfold fD; exact decide_eq_true (by omega)⟩
        · split
          · exact .inr (.inr (.inl ⟨rfl, by unfold fT; exact decide_eq_true (by omega)⟩))
          · split
            · exact .inr (.inr (.inr (.inr (.inl ⟨_, rfl, .inl (by omega)⟩))))
            · split
              · exact .inr (.inr (.inr (.inr (.inl ⟨_, rfl, .inr (by omega)⟩))))
              · exact .inr (.inr (.inr (.inl ⟨rfl, by omega⟩)))
/-- A value that an operation puts is a word. -/
theorem eff_word {op a b v : Int} {im : Nat} {mem : List Int} (ha : isW a) (hb : isW b) (him : im < 4294967296) (h : effM op a b im mem = .put v) : isW v := by
  unfold effM at h
  split at h
  · split at h
    · cases h
    · split at h
      · cases h
      · cases h; exact rdD_w _ _ _ _
  · split at h
    · cases h; exact ⟨by omega, by omega⟩
    · split at h
      · cases h; exact ha
      · split at h
        · split at h
          · cases h
          · cases h; exact resF_w ha hb
        · split at h
          · cases h
          · split at h
            · cases h
            · split at h <;> cases h
end Go.Proofs.Ytjfpaelmcepidaa.PK
namespace Go.Proofs.Ytjfpaelmcepidaa.PK
open Go.RowKit

/-- Where the value of a register is. -/
def VAt (s : Seats) (rg mem : List Int) (r v : Int) : Prop :=
  match s.col r with
  | some c => rg.getD c.toNat 0 = v
  | none => match s.num r with
    | some n => v = n
    | none => match s.frm r with
      | some p => rdF mem (1024 + 4 * p.toNat) 4 = v
      | none => True
/-- Seats that fit a program. -/
structure SeatOk (s : Seats) (ls : List (List Cd)) (inn : Int → Int → Bool) (places : Nat) : Prop where
  seated : ∀ b x r, x ∈ atB ls b → (usesB x r = true ∨ defB x r = true) → s.col r = none → s.num r = none → ∃ p, s.frm r = some p
  colR : ∀ r c, s.col r = some c → 0 ≤ c ∧ c < s.k
  clash : ∀ u v c, Clashes ls inn (u, v) → s.col u = some c → s.col v = some c → False
  frmR : ∀ r p, s.frm r = some p → 0 ≤ p ∧ p < places
  frmI : ∀ r r' p, s.frm r = some p → s.frm r' = some p → r = r'
  num : ∀ r n, s.num r = some n → (∀ b x, x ∈ atB ls b → defB x r = true → x.op = 0 ∧ x.im = n) ∧ inn 0 r = false
  one : ∀ r n, s.num r = some n → s.col r = none ∧ s.frm r = none
  big : places ≤ 200
  numU : ∀ r n, s.num r = some n → n < 4294967296
section
variable {s : Seats} {ls : List (List Cd)} {inn : Int → Int → Bool} {places : Nat}
theorem getD_set {l : List Int} {i j : Nat} {v : Int} (h : i ≠ j) : (l.set i v).getD j 0 = l.getD j 0 := by
  rw [List.getD_eq_getElem?_getD, List.getElem?_set, if_neg h, List.getD_eq_getElem?_getD]
theorem getD_set_at {l : List Int} {i : Nat} {v : Int} (h : i < l.length) : (l.set i v).getD i 0 = v := by
  rw [List.getD_eq_getElem?_getD, List.getElem?_set, if_pos rfl, if_pos h]; rfl
/-- Registers that are no seat of a value may change. -/
theorem VAt.regs {rg rg' mem : List Int} {r v : Int} (h : VAt s rg mem r v) (hr : ∀ c, s.col r = some c → rg'.getD c.toNat 0 = rg.getD c.toNat 0) : VAt s rg' mem r v := by
  unfold VAt at *
  split
  · rename_i c hc
    rw [hc] at h
    rw [hr c hc]; exact h
  · rename_i hc
    rw [hc] at h
    exact h
theorem VAt.mem {rg mem mem' : List Int} {r v : Int} (h : VAt s rg mem r v) (hm : ∀ p, s.frm r = some p → rdF mem' (1024 + 4 * p.toNat) 4 = rdF mem (1024 + 4 * p.toNat) 4) : VAt s rg mem' r v := by
  unfold VAt at *
  split
  · rename_i c hc
    rw [hc] at h
    exact h
  · rename_i hc
    rw [hc] at h
    split
    · rename_i n hn
      rw [hn] at h
      exact h
    · rename_i hn
      rw [hn] at h
      split
      · rename_i p hp
        rw [hp] at h
        rw [hm p hp]; exact h
      · trivial
/-- So many instructions lead from one machine to another one. -/
def Runs (Q : List (List Cd)) (n : Nat) (m m2 : Mach) : Prop := ∀ F c, runM Q 0 0 (F + n) m c = runM Q 0 0 F m2 (c + n)
theorem Runs.zero (Q : List (List Cd)) (m : Mach) : Runs Q 0 m m := fun _ _ => rfl
theorem Runs.add {Q : List (List Cd)} {a b : Nat} {m m2 m3 : Mach} (h : Runs Q a m m2) (h2 : Runs Q b m2 m3) : Runs Q (a + b) m m3 := fun F c => by
  rw [show F + (a + b) = (F + b) + a by omega, h, h2]; congr 1; omega
theorem Runs.one {Q : List (List Cd)} {m m2 : Mach} {y : Cd} (hy : atC (atB Q m.blk) m.pc = y) (h : ∀ c, stepM m y 0 0 c = .on m2) : Runs Q 1 m m2 := fun F c => runM_on (by rw [hy]; exact h c)
theorem opA_neg {m : Mach} {x : Cd} (h : (fA x.op && decide (0 ≤ x.a)) = false) : opA m x = 0 := by
  unfold opA
  rw [if_neg]
  rintro ⟨h1, h2⟩
  rw [h1, decide_eq_true h2] at h; cases h
theorem opA_yes {m : Mach} {x : Cd} (h : fA x.op = true) (h2 : 0 ≤ x.a) : opA m x = m.rg.getD x.a.toNat 0 := by unfold opA; rw [if_pos ⟨h, h2⟩]
theorem opB_yes {m : Mach} {x : Cd} (h : fB x.op = true) : opB m x = m.rg.getD x.b.toNat 0 := by unfold opB; rw [if_pos h]
theorem uses_a {x : Cd} (h : (fA x.op && decide (0 ≤ x.a)) = true) : usesB x x.a = true := by
  unfold usesB usesL
  rw [if_pos h]
  split
  · split <;> simp
  · simp
theorem uses_b {x : Cd} (h : fB x.op = true) : usesB x x.b = true := by
  unfold usesB usesL
  rw [h]
  split
  · by_cases c : x.b = x.a
    · rw [if_neg (by simp [c]), c]; simp
    · rw [if_pos (by simp [c])]
      split <;> simp
  · simp
/-- Reading a value. -/
theorem run_read (H : SeatOk s ls inn places) {Q : List (List Cd)} {m : Mach} {r spare v : Int} (hsp : (s.k : Int) ≤ spare ∧ spare < s.k + 2) (hl : m.rg.length = s.k + 2) (hm : m.mem.length = 32768)
    (hc : ∀ j, j < (readS s r spare).2.length → atC (atB Q m.blk) (m.pc + j) = atC (readS s r spare).2 j) (hv : VAt s m.rg m.mem r v) (hs : s.col r = none → s.num r = none → ∃ p, s.frm r = some p) :
    ∃ rg, Runs Q (readS s r spare).2.length m { m with rg := rg, pc := m.pc + (readS s r spare).2.length } ∧ rg.length = s.k + 2 ∧ rg.getD (readS s r spare).1.toNat 0 = v ∧ (∀ j, j ≠ spare.toNat → rg.getD j 0 = m.rg.getD j 0) ∧ 0 ≤ (readS s r spare).1 ∧ ((readS s r spare).1 < s.k ∨ (readS s r spare).1 = spare) ∧ (readS s r spare).2.length ≤ 1 := by
  unfold readS VAt at *
  cases h1 : s.col r with
  | some c =>
    rw [h1] at hv
    have := H.colR r c h1
    exact ⟨m.rg, Runs.zero _ _, hl, hv, fun _ _ => rfl, this.1, .inl this.2, Nat.zero_le _⟩
  | none =>
    rw [h1] at hv hc
    cases h2 : s.num r with
    | some n =>
      rw [h2] at hv hc
      have hc0 := hc 0 (by simp)
      refine ⟨m.rg.set spare.toNat v, Runs.one hc0 fun c => ?_, by rw [List.length_set]; exact hl, getD_set_at (by omega), fun j hj => getD_set (fun e => hj e.symm), by simp; omega, .inr rfl, Nat.le_refl _⟩
      rw [show atC [cLi spare n] 0 = cLi spare n from rfl, step_li (x := cLi spare n) rfl]
      unfold putR cLi
      rw [hv]; rfl
    | none =>
      rw [h2] at hv hc
      obtain ⟨p, hp⟩ := hs h1 h2
      rw [hp] at hv hc
      have hc0 := hc 0 (by simp)
      have hpp := H.frmR r p hp
      have hb := H.big
      refine ⟨m.rg.set spare.toNat v, Runs.one hc0 fun c => ?_, by rw [List.length_set]; exact hl, getD_set_at (by omega), fun j hj => getD_set (fun e => hj e.symm), by simp; omega, .inr rfl, Nat.le_refl _⟩
      rw [show atC [cLw spare ((some p).getD 0)] 0 = cLw spare p from rfl, step_eff]
      have ha : opA m (cLw spare p) = 0 := opA_none (by show (-1 : Int) < 0; decide)
      have he : effM (cLw spare p).op (opA m (cLw spare p)) (opB m (cLw spare p)) (cLw spare p).im m.mem = .put (rdF m.mem (1024 + 4 * p.toNat) 4) := by
        rw [ha]
        have hpl : ((0 + ((1024 + 4 * p.toNat : Nat) : Int)) % 4294967296).toNat = 1024 + 4 * p.toNat := by omega
        show effM 20 0 _ (1024 + 4 * p.toNat) m.mem = _
        unfold effM
        rw [if_pos (by decide), hpl, show nB 20 = 4 from by decide, if_neg (by omega), if_neg (by decide)]
      rw [he, hv]; rfl
end
/-- How things stand ahead of an instruction. -/
structure Sim (s : Seats) (ls : List (List Cd)) (inn : Int → Int → Bool) (places sh : Nat) (m m' : Mach) : Prop where
  blk : m'.blk = m.blk + sh
  pc : m'.pc = offS s sh (atB ls m.blk) m.pc
  val : ∀ r, liveL ((atB ls m.blk).drop m.pc) inn r = true → VAt s m'.rg m'.mem r (m.rg.getD r.toNat 0)
  mem : MemEq places m.mem m'.mem
  rl : m'.rg.length = s.k + 2
  rw : ∀ x ∈ m.rg, isW x
  ml : m.mem.length = 32768
  bk : m.blk < ls.length
  pk : m.pc < (atB ls m.blk).length
theorem shX_same (sh : Nat) (x : Cd) : (shX sh x).op = x.op ∧ (shX sh x).d = x.d ∧ (shX sh x).a = x.a ∧ (shX sh x).b = x.b ∧ (shX sh x).im = x.im := by
  unfold shX; split <;> simp
theorem shX_opnd (s : Seats) (sh : Nat) (x : Cd) : opndA s (shX sh x) = opndA s x ∧ opndB s (shX sh x) = opndB s x ∧ opndD s (shX sh x) = opndD s x := by
  obtain ⟨h1, h2, h3, h4, _⟩ := shX_same sh x
  unfold opndA opndB opndD
  rw [h1, h2, h3, h4]
  exact ⟨rfl, rfl, rfl⟩
/-- What lies behind the operands of an instruction that is not dropped. -/
theorem codeS_keep {s : Seats} {sh : Nat} {x : Cd} (h : (fD x.op && (s.num x.d).isSome) = false) : codeS s (shX sh x) = (opndA s x).2 ++ ((opndB s x).2 ++ (mainS s (shX sh x) :: (opndD s x).2)) := by
  obtain ⟨h1, h2, _⟩ := shX_same sh x
  obtain ⟨o1, o2, o3⟩ := shX_opnd s sh x
  unfold codeS
  rw [h1, h2, if_neg (by rw [h]; decide), o1, o2, o3]
section
variable {s : Seats} {ls : List (List Cd)} {inn : Int → Int → Bool} {places sh : Nat} {Q : List (List Cd)} {m m' : Mach}
/-- Reading the operands. -/
theorem run_opnds (H : SeatOk s ls inn places) (hQ : ∀ b, b < ls.length → atB Q (b + sh) = blockS s sh (atB ls b)) (S : Sim s ls inn places sh m m') (x : Cd) (hx : atC (atB ls m.blk) m.pc = x) (hk : (fD x.op && (s.num x.d).isSome) = false) :
    ∃ rg, Runs Q ((opndA s x).2.length + (opndB s x).2.length) m' { m' with rg := rg, pc := m'.pc + ((opndA s x).2.length + (opndB s x).2.length) } ∧ rg.length = s.k + 2 ∧ (∀ j, j < s.k → rg.getD j 0 = m'.rg.getD j 0) ∧
      (∀ pc', opA { m' with rg := rg, pc := pc' } (mainS s (shX sh x)) = opA m x) ∧ (∀ pc', opB { m' with rg := rg, pc := pc' } (mainS s (shX sh x)) = opB m x) ∧
      (opndA s x).2.length + (opndB s x).2.length ≤ 2 ∧
      (∀ j, j < 1 + (opndD s x).2.length → atC (atB Q m'.blk) (m'.pc + ((opndA s x).2.length + (opndB s x).2.length) + j) = atC (mainS s (shX sh x) :: (opndD s x).2) j) := by
  have hmem : x ∈ atB ls m.blk := by rw [← hx, atC_get S.pk]; exact List.getElem_mem _
  have hcode : ∀ j, j < (codeS s (shX sh x)).length → atC (atB Q m'.blk) (m'.pc + j) = atC (codeS s (shX sh x)) j := fun j hj => by
    rw [S.blk, hQ _ S.bk, S.pc]
    have := blockS_at (s := s) (sh := sh) S.pk (j := j) (by rw [hx]; exact hj)
    rw [this, hx]
  have hck := codeS_keep (s := s) (sh := sh) hk
  rw [hck] at hcode
  have hlive : ∀ r, usesB x r = true → VAt s m'.rg m'.mem r (m.rg.getD r.toNat 0) := fun r hr => S.val r (by
    rw [behB_next S.pk, hx, hr]; rfl)
  have hml : m'.mem.length = 32768 := by rw [S.mem.1]; exact S.ml
  have hs1 := (shX_same sh x).1
  -- the first operand
  obtain ⟨rg1, r1, l1, k1, a1, n1⟩ : ∃ rg1, Runs Q (opndA s x).2.length m' { m' with rg := rg1, pc := m'.pc + (opndA s x).2.length } ∧ rg1.length = s.k + 2 ∧ (∀ j, j ≠ s.k → rg1.getD j 0 = m'.rg.getD j 0) ∧
      (∀ rg, (∀ j, j ≤ s.k → rg.getD j 0 = rg1.getD j 0) → ∀ pc', opA { m' with rg := rg, pc := pc' } (mainS s (shX sh x)) = opA m x) ∧ (opndA s x).2.length ≤ 1 := by
    cases hA : (fA x.op && decide (0 ≤ x.a))
    · have e : opndA s x = (x.a, []) := by unfold opndA; rw [if_neg (by rw [hA]; decide)]
      rw [e]
      refine ⟨m'.rg, Runs.zero _ _, S.rl, fun _ _ => rfl, fun rg _ pc' => ?_, Nat.zero_le _⟩
      rw [opA_neg hA, opA_neg]
      show (fA (shX sh x).op && decide (0 ≤ (opndA s (shX sh x)).1)) = false
      rw [(shX_opnd s sh x).1, hs1, e]; exact hA
    · have hA2 := hA
      rw [Bool.and_eq_true] at hA2
      have e : opndA s x = readS s x.a s.k := by unfold opndA; rw [if_pos hA]
      rw [e] at hcode ⊢
      obtain ⟨rg1, h1, h2, h3, h4, h5, h6, h7⟩ := run_read H (Q := Q) (m := m') (r := x.a) (spare := s.k) (v := m.rg.getD x.a.toNat 0) (by omega) S.rl hml (fun j hj => by rw [hcode j (by rw [List.length_append]; omega), atC_left hj]) (hlive _ (uses_a hA)) (H.seated _ x x.a hmem (.inl (uses_a hA)))
      refine ⟨rg1, h1, h2, fun j hj => h4 j (by simpa using hj), fun rg hrg pc' => ?_, h7⟩
      rw [opA_yes hA2.1 (of_decide_eq_true hA2.2)]
      have e2 : (mainS s (shX sh x)).a = (readS s x.a s.k).1 := by show (opndA s (shX sh x)).1 = _; rw [(shX_opnd s sh x).1, e]
      rw [opA_yes (by show fA (shX sh x).op = true; rw [hs1]; exact hA2.1) (by rw [e2]; exact h5), e2]
      show rg.getD _ 0 = _
      rw [hrg _ (by omega)]; exact h3
  -- the second one
  obtain ⟨rg2, r2, l2, k2, b2, n2⟩ : ∃ rg2, Runs Q (opndB s x).2.length { m' with rg := rg1, pc := m'.pc + (opndA s x).2.length } { m' with rg := rg2, pc := m'.pc + (opndA s x).2.length + (opndB s x).2.length } ∧ rg2.length = s.k + 2 ∧ (∀ j, j ≠ s.k + 1 → rg2.getD j 0 = rg1.getD j 0) ∧
      (∀ pc', opB { m' with rg := rg2, pc := pc' } (mainS s (shX sh x)) = opB m x) ∧ (opndB s x).2.length ≤ 1 := by
    cases hB : fB x.op
    · have e : opndB s x = (x.b, []) := by unfold opndB; rw [if_neg (by rw [hB]; decide)]
      rw [e]
      refine ⟨rg1, Runs.zero _ _, l1, fun _ _ => rfl, fun pc' => ?_, Nat.zero_le _⟩
      rw [opB_no hB, opB_no]
      show fB (shX sh x).op = false
      rw [hs1]; exact hB
    · have e : opndB s x = readS s x.b (s.k + 1) := by unfold opndB; rw [if_pos hB]
      rw [e] at hcode ⊢
      obtain ⟨rg2, h1, h2, h3, h4, h5, h6, h7⟩ := run_read H (Q := Q) (m := { m' with rg := rg1, pc := m'.pc + (opndA s x).2.length }) (r := x.b) (spare := s.k + 1) (v := m.rg.getD x.b.toNat 0) (by omega) l1 hml (fun j hj => by
        show atC (atB Q m'.blk) (m'.pc + (opndA s x).2.length + j) = _
        rw [Nat.add_assoc, hcode _ (by rw [List.length_append, List.length_append]; omega), atC_right, atC_left hj]) ((hlive _ (uses_b hB)).regs fun c hc => k1 _ (by have := H.colR _ c hc; omega)) (H.seated _ x x.b hmem (.inl (uses_b hB)))
      refine ⟨rg2, h1, h2, fun j hj => h4 j (by omega), fun pc' => ?_, h7⟩
      rw [opB_yes hB]
      have e2 : (mainS s (shX sh x)).b = (readS s x.b (s.k + 1)).1 := by show (opndB s (shX sh x)).1 = _; rw [(shX_opnd s sh x).2.1, e]
      rw [opB_yes (by show fB (shX sh x).op = true; rw [hs1]; exact hB), e2]
      exact h3
  refine ⟨rg2, ?_, l2, fun j hj => by rw [k2 j (by omega), k1 j (by omega)], fun pc' => a1 rg2 (fun j hj => k2 j (by omega)) pc', b2, by omega, fun j hj => ?_⟩
  · have := r1.add r2
    rwa [Nat.add_assoc] at this
  · rw [Nat.add_assoc, hcode _ (by simp only [List.length_append, List.length_cons]; omega)]
    rw [Nat.add_assoc, atC_right, atC_right]
end
end Go.Proofs.Ytjfpaelmcepidaa.PK
namespace Go.Proofs.Ytjfpaelmcepidaa.PK
open Go.RowKit

/-- A program that may be given few registers: it is valid, and uses memory before the frame alone, at places that it names. -/
structure ProgOk (ls : List (List Cd)) (inn : Int → Int → Bool) (regs : Int) : Prop where
  code : ∀ k i, k < ls.length → i < (atB ls k).length → isCodeB (atC (atB ls k) i) regs ls.length = true
  some : ∀ k, k < ls.length → 0 < (atB ls k).length
  last : ∀ k i, k < ls.length → i < (atB ls k).length → isLastB (atC (atB ls k) i).op = decide ((i : Int) = (atB ls k).length - 1)
  frame : ∀ k i, k < ls.length → i < (atB ls k).length → fM (atC (atB ls k) i).op = true → (atC (atB ls k) i).a < 0 ∧ (atC (atB ls k) i).im < 1020
  im : ∀ k i, (atC (atB ls k) i).im < 4294967296
  inR : ∀ b r, inn b r = true → 0 ≤ r ∧ r < regs
  fix : ∀ b r, b < ls.length → liveL (atB ls b) inn r = true → inn b r = true
/-- What an effect is in a memory that is equal but for the frame. -/
theorem eff_same {places : Nat} {m m' : List Int} (h : MemEq places m m') {op a b : Int} {im : Nat} (hf : fM op = true → a = 0 ∧ im < 1020) :
    (∀ v, effM op a b im m = .put v → effM op a b im m' = .put v) ∧ (∀ q, effM op a b im m = .sto q → ∃ q', effM op a b im m' = .sto q' ∧ MemEq places q q' ∧ ∀ p : Nat, rdF q' (1024 + 4 * p) 4 = rdF m' (1024 + 4 * p) 4) ∧
      (effM op a b im m = .jmp → effM op a b im m' = .jmp) ∧ (effM op a b im m = .nxt → effM op a b im m' = .nxt) ∧ (∀ e, effM op a b im m = .fin e → effM op a b im m' = .fin e) := by
  by_cases hM : fM op = true
  · obtain ⟨rfl, him⟩ := hf hM
    have hn := nB_le op
    have hp : ((0 + (im : Int)) % 4294967296).toNat = im := by omega
    unfold effM
    simp only [if_pos hM, hp, h.1]
    by_cases hl : m.length < im + nB op
    · simp [if_pos hl]
    · simp only [if_neg hl]
      by_cases h2 : 21 ≤ op
      · simp only [if_pos h2]
        refine ⟨fun v h => (by cases h), fun q hq => ?_, fun h => (by cases h), fun h => (by cases h), fun e h => (by cases h)⟩
        cases hq
        exact ⟨_, rfl, h.both b, fun p => rdF_congr fun j h1 _ => wrF_out (by omega)⟩
      · simp only [if_neg h2]
        refine ⟨fun v hv => ?_, fun q h => (by cases h), fun h => (by cases h), fun h => (by cases h), fun e h => (by cases h)⟩
        rw [h.rd (by omega)]; exact hv
  · have e : effM op a b im m' = effM op a b im m := by
      unfold effM
      rw [if_neg hM, if_neg hM]
    rw [e]
    refine ⟨fun _ h => h, fun q hq => ?_, fun h => h, fun h => h, fun _ h => h⟩
    exfalso
    unfold effM at hq
    rw [if_neg hM] at hq
    repeat' split at hq
    all_goals cases hq
section
variable {s : Seats} {ls : List (List Cd)} {inn : Int → Int → Bool} {places sh : Nat} {Q : List (List Cd)} {m m' : Mach} {regs : Int}
theorem live_pos (P : ProgOk ls inn regs) {b i : Nat} {r : Int} (hb : b < ls.length) (h : liveL ((atB ls b).drop i) inn r = true) : 0 ≤ r ∧ r < regs :=
  liveL_in P.inR _ r (fun x hx => by
    obtain ⟨j, hj, rfl⟩ := List.getElem_of_mem (List.mem_of_mem_drop hx)
    rw [← atC_get hj]
    exact usesL_in (P.code b j hb hj)) h
theorem clash_of {b i : Nat} {p : Int × Int} (hb : b < ls.length) (hi : i < (atB ls b).length) (h : PairC (atC (atB ls b) i) (behB (atB ls b) i inn) p) : Clashes ls inn p := ⟨b, i, hi, .inl hb, h⟩
theorem next_pc (P : ProgOk ls inn regs) {b i : Nat} (hb : b < ls.length) (hi : i < (atB ls b).length) (h : isLastB (atC (atB ls b) i).op = false) : i + 1 < (atB ls b).length := by
  have h2 := P.last b i hb hi
  rw [h] at h2
  have := of_decide_eq_false h2.symm
  omega
/-- What is live behind an instruction that does not write it, is live ahead of it. -/
theorem live_back {l : List Cd} {i : Nat} {r : Int} (hi : i < l.length) (h : behB l i inn r = true) (hd : defB (atC l i) r = false) : liveL (l.drop i) inn r = true := by
  rw [behB_next hi, hd, h]; simp
theorem defB_no {x : Cd} {r : Int} (h : fD x.op = false) : defB x r = false := by unfold defB; rw [h]; rfl
/-- An instruction that writes a register. -/
theorem sim_put (H : SeatOk s ls inn places) (P : ProgOk ls inn regs) (hQ : ∀ b, b < ls.length → atB Q (b + sh) = blockS s sh (atB ls b)) (S : Sim s ls inn places sh m m') (hr0 : (m.rg.length : Int) = regs) (x : Cd) (hx : atC (atB ls m.blk) m.pc = x)
    (hD : fD x.op = true) (v : Int) (he : effM x.op (opA m x) (opB m x) x.im m.mem = .put v) (hv : isW v) :
    ∃ n m2', n ≤ 4 ∧ Runs Q n m' m2' ∧ Sim s ls inn places sh { m with rg := m.rg.set x.d.toNat v, pc := m.pc + 1 } m2' := by
  have hcode := P.code _ _ S.bk S.pk
  rw [hx] at hcode
  obtain ⟨d0, d1⟩ := (code_parts hcode).2.1 hD
  have hmem : x ∈ atB ls m.blk := by rw [← hx, atC_get S.pk]; exact List.getElem_mem _
  have hnl : isLastB x.op = false := by
    unfold fD at hD; unfold isLastB
    have := of_decide_eq_true hD
    exact decide_eq_false (by omega)
  have hpk := next_pc P S.bk S.pk (by rw [hx]; exact hnl)
  have hoff := offS_next (s := s) (sh := sh) S.pk
  rw [hx] at hoff
  have hw : ∀ y ∈ m.rg.set x.d.toNat v, isW y := set_w S.rw hv _
  have hbeh : ∀ r, liveL ((atB ls m.blk).drop (m.pc + 1)) inn r = true → behB (atB ls m.blk) m.pc inn r = true := fun r h => by unfold behB; rw [h]; rfl
  have hset : ∀ r, 0 ≤ r → r ≠ x.d → (m.rg.set x.d.toNat v).getD r.toNat 0 = m.rg.getD r.toNat 0 := fun r h1 h2 => getD_set (by omega)
  have hset0 : (m.rg.set x.d.toNat v).getD x.d.toNat 0 = v := getD_set_at (by omega)
  have hdef : ∀ r, r ≠ x.d → defB (atC (atB ls m.blk) m.pc) r = false := fun r h => by rw [hx]; unfold defB; rw [hD, decide_eq_false (fun e => h e.symm)]; rfl
  cases hk : (fD x.op && (s.num x.d).isSome)
  · -- it is kept
    obtain ⟨rg, r1, l1, k1, a1, b1, n1, c1⟩ := run_opnds H hQ S x hx hk
    have hf : fM x.op = true → opA m x = 0 ∧ x.im < 1020 := fun h => by
      have := P.frame _ _ S.bk S.pk (by rw [hx]; exact h)
      rw [hx] at this
      exact ⟨opA_none this.1, this.2⟩
    have he2 := (eff_same (op := x.op) (a := opA m x) (b := opB m x) (im := x.im) S.mem hf).1 v he
    have hs := shX_same sh x
    have hmain : ∀ pc' c, stepM { m' with rg := rg, pc := pc' } (mainS s (shX sh x)) 0 0 c = .on { m' with rg := rg.set (opndD s x).1.toNat v, pc := pc' + 1 } := fun pc' c => by
      rw [step_eff, a1, b1]
      show doE _ _ c (effM (shX sh x).op _ _ (shX sh x).im m'.mem) = _
      rw [hs.1, hs.2.2.2.2, he2]
      show Run.on { m' with rg := rg.set (opndD s (shX sh x)).1.toNat v, pc := pc' + 1 } = _
      rw [(shX_opnd s sh x).2.2]
    have hD2 : opndD s x = writeS s x.d := by unfold opndD; rw [if_pos hD]
    have hlen : (codeS s (shX sh x)).length = ((opndA s x).2.length + (opndB s x).2.length) + (1 + (opndD s x).2.length) := by
      rw [codeS_keep hk]; simp only [List.length_append, List.length_cons]; omega
    have hm1 : Runs Q 1 { m' with rg := rg, pc := m'.pc + ((opndA s x).2.length + (opndB s x).2.length) } { m' with rg := rg.set (opndD s x).1.toNat v, pc := m'.pc + ((opndA s x).2.length + (opndB s x).2.length) + 1 } :=
      Runs.one (c1 0 (by omega)) (hmain _)
    have hother : ∀ r, liveL ((atB ls m.blk).drop (m.pc + 1)) inn r = true → r ≠ x.d → VAt s m'.rg m'.mem r (m.rg.getD r.toNat 0) := fun r h1 h2 => S.val r (live_back S.pk (hbeh r h1) (hdef r h2))
    cases hc : s.col x.d with
    | some c =>
      have hW : writeS s x.d = (c, []) := by unfold writeS; rw [hc]
      rw [hD2, hW] at hm1 hlen
      have hcr := H.colR _ _ hc
      refine ⟨_, _, ?_, r1.add hm1, S.blk, ?_, fun r hl => ?_, S.mem, by show (rg.set _ _).length = _; rw [List.length_set]; exact l1, hw, S.ml, S.bk, hpk⟩
      · omega
      · show m'.pc + ((opndA s x).2.length + (opndB s x).2.length) + 1 = offS s sh (atB ls m.blk) (m.pc + 1)
        rw [hoff, S.pc, hlen]; simp only [List.length_nil]; omega
      · show VAt s (rg.set c.toNat v) m'.mem r ((m.rg.set x.d.toNat v).getD r.toNat 0)
        have hrp := live_pos P S.bk hl
        by_cases e : r = x.d
        · subst e
          rw [hset0]
          unfold VAt
          rw [hc]
          exact getD_set_at (by omega)
        · rw [hset r hrp.1 e]
          cases hcr2 : s.col r with
          | none => exact (hother r hl e).regs fun c' hc' => by rw [hcr2] at hc'; cases hc'
          | some c' =>
            by_cases ec : c' = c
            · subst ec
              -- the same color: a move of this very register
              have hmv : x.op = 1 ∧ r = x.a := by
                refine Classical.byContradiction fun hn => ?_
                have hok : okC x (behB (atB ls m.blk) m.pc inn) r = true := by
                  unfold okC
                  rw [hbeh r hl, decide_eq_false e]
                  by_cases o : x.op = 1
                  · rw [decide_eq_true o, decide_eq_false (fun h => hn ⟨o, h⟩)]; rfl
                  · rw [decide_eq_false o]; rfl
                have hcl : Clashes ls inn (min r x.d, max r x.d) := clash_of S.bk S.pk (by rw [hx]; exact ⟨hD, r, hok, rfl⟩)
                rcases Int.le_total r x.d with h | h
                · rw [Int.min_eq_left h, Int.max_eq_right h] at hcl
                  exact H.clash _ _ _ hcl hcr2 hc
                · rw [Int.min_eq_right h, Int.max_eq_left h] at hcl
                  exact H.clash _ _ _ hcl hc hcr2
              unfold VAt
              rw [hcr2]
              show (rg.set c'.toNat v).getD c'.toNat 0 = _
              rw [getD_set_at (by omega)]
              have hva : v = opA m x := by
                rw [hmv.1] at he
                unfold effM at he
                rw [if_neg (by decide), if_neg (by decide), if_pos rfl] at he
                cases he; rfl
              rw [hva, opA_yes (by rw [hmv.1]; decide) (by rw [← hmv.2]; exact hrp.1), hmv.2]
            · refine (hother r hl e).regs fun c2 hc2 => ?_
              rw [hcr2] at hc2
              cases hc2
              have := H.colR _ _ hcr2
              rw [getD_set (by omega), k1 _ (by omega)]
    | none =>
      have hn2 : s.num x.d = none := by
        rw [hD, Bool.true_and] at hk
        exact Option.not_isSome_iff_eq_none.1 (by rw [hk]; decide)
      obtain ⟨p, hp⟩ := H.seated _ x x.d hmem (.inr (by unfold defB; rw [hD]; simp)) hc hn2
      have hW : writeS s x.d = ((s.k : Int), [cSw s.k p]) := by unfold writeS; rw [hc, hp]
      rw [hD2, hW] at hm1 hlen c1
      have hpr := H.frmR _ _ hp
      have hbig := H.big
      have hml : m'.mem.length = 32768 := by rw [S.mem.1]; exact S.ml
      have hk0 : (rg.set ((s.k : Nat) : Int).toNat v).getD s.k 0 = v := by rw [Int.toNat_natCast]; exact getD_set_at (by omega)
      have hm2 : Runs Q 1 { m' with rg := rg.set ((s.k : Nat) : Int).toNat v, pc := m'.pc + ((opndA s x).2.length + (opndB s x).2.length) + 1 } { m' with rg := rg.set ((s.k : Nat) : Int).toNat v, mem := wrF m'.mem (1024 + 4 * p.toNat) 4 v, pc := m'.pc + ((opndA s x).2.length + (opndB s x).2.length) + 1 + 1 } := by
        refine Runs.one (y := cSw s.k p) (c1 1 (by simp)) fun c => ?_
        rw [step_eff]
        have ha : opA { m' with rg := rg.set ((s.k : Nat) : Int).toNat v, pc := m'.pc + ((opndA s x).2.length + (opndB s x).2.length) + 1 } (cSw s.k p) = 0 := opA_none (by show (-1 : Int) < 0; decide)
        have hb : opB { m' with rg := rg.set ((s.k : Nat) : Int).toNat v, pc := m'.pc + ((opndA s x).2.length + (opndB s x).2.length) + 1 } (cSw s.k p) = v := by
          rw [opB_yes (by show fB 23 = true; decide)]
          exact hk0
        have hpl : ((0 + ((1024 + 4 * p.toNat : Nat) : Int)) % 4294967296).toNat = 1024 + 4 * p.toNat := by omega
        have hef : effM (cSw s.k p).op 0 v (cSw s.k p).im m'.mem = .sto (wrF m'.mem (1024 + 4 * p.toNat) 4 v) := by
          show effM 23 0 v (1024 + 4 * p.toNat) m'.mem = _
          unfold effM
          rw [if_pos (by decide), hpl, show nB 23 = 4 from by decide, if_neg (by omega), if_pos (by decide)]
        rw [ha, hb]
        show doE _ _ c (effM (cSw s.k p).op 0 v (cSw s.k p).im m'.mem) = _
        rw [hef]; rfl
      have hmq := S.mem.frame (p := p.toNat) (by omega) v
      refine ⟨_, _, ?_, (r1.add hm1).add hm2, S.blk, ?_, fun r hl => ?_, hmq, by show (rg.set _ _).length = _; rw [List.length_set]; exact l1, hw, S.ml, S.bk, hpk⟩
      · omega
      · show m'.pc + ((opndA s x).2.length + (opndB s x).2.length) + 1 + 1 = offS s sh (atB ls m.blk) (m.pc + 1)
        rw [hoff, S.pc, hlen]; simp only [List.length_cons, List.length_nil]; omega
      · show VAt s (rg.set ((s.k : Nat) : Int).toNat v) (wrF m'.mem (1024 + 4 * p.toNat) 4 v) r ((m.rg.set x.d.toNat v).getD r.toNat 0)
        have hrp := live_pos P S.bk hl
        by_cases e : r = x.d
        · subst e
          rw [hset0]
          unfold VAt
          rw [hc, hn2, hp]
          exact rd_wr hv (by omega)
        · rw [hset r hrp.1 e]
          refine ((hother r hl e).regs (rg' := rg.set ((s.k : Nat) : Int).toNat v) fun c' hc' => ?_).mem fun p' hp' => ?_
          · have := H.colR _ _ hc'
            rw [getD_set (by omega), k1 _ (by omega)]
          · have hne : p' ≠ p := fun e2 => e (H.frmI _ _ _ (by rw [← e2]; exact hp') hp)
            have := H.frmR _ _ hp'
            exact rdF_congr fun j h1 h2 => wrF_out (by omega)
  · -- it is dropped
    rw [hD, Bool.true_and] at hk
    obtain ⟨n, hn⟩ := Option.isSome_iff_exists.1 hk
    obtain ⟨h1, _⟩ := H.num _ _ hn
    obtain ⟨ho, hi⟩ := h1 _ x hmem (by unfold defB; rw [hD]; simp)
    have hvn : v = n := by
      rw [ho] at he
      unfold effM at he
      rw [if_neg (by decide), if_pos rfl] at he
      cases he
      rw [hi]
    have hs := shX_same sh x
    have hlen : (codeS s (shX sh x)).length = 0 := by
      unfold codeS
      rw [hs.1, hs.2.1, hD, hn]; rfl
    refine ⟨0, m', Nat.zero_le _, Runs.zero _ _, S.blk, ?_, fun r hl => ?_, S.mem, S.rl, hw, S.ml, S.bk, hpk⟩
    · show m'.pc = offS s sh (atB ls m.blk) (m.pc + 1)
      rw [hoff, S.pc, hlen]; rfl
    · show VAt s m'.rg m'.mem r ((m.rg.set x.d.toNat v).getD r.toNat 0)
      have hrp := live_pos P S.bk hl
      by_cases e : r = x.d
      · subst e
        rw [hset0]
        unfold VAt
        rw [(H.one _ _ hn).1, hn]
        exact hvn
      · rw [hset r hrp.1 e]
        exact S.val r (live_back S.pk (hbeh r hl) (hdef r e))
end
end Go.Proofs.Ytjfpaelmcepidaa.PK
namespace Go.Proofs.Ytjfpaelmcepidaa.PK
open Go.RowKit

section
variable {s : Seats} {ls : List (List Cd)} {inn : Int → Int → Bool} {places sh : Nat} {Q : List (List Cd)} {m m' : Mach} {regs : Int}
/-- An instruction that writes no register and goes on. -/
theorem sim_other (H : SeatOk s ls inn places) (P : ProgOk ls inn regs) (hQ : ∀ b, b < ls.length → atB Q (b + sh) = blockS s sh (atB ls b)) (S : Sim s ls inn places sh m m') (x : Cd) (hx : atC (atB ls m.blk) m.pc = x)
    (hD : fD x.op = false) (m2 : Mach) (he : (∃ q, effM x.op (opA m x) (opB m x) x.im m.mem = .sto q ∧ 21 ≤ x.op ∧ x.op ≤ 23 ∧ m2 = { m with mem := q, pc := m.pc + 1 }) ∨ (effM x.op (opA m x) (opB m x) x.im m.mem = .jmp ∧ fT x.op = true ∧ m2 = { m with blk := x.to.toNat, pc := 0 }) ∨ (effM x.op (opA m x) (opB m x) x.im m.mem = .nxt ∧ x.op = 25 ∧ m2 = { m with pc := m.pc + 1 })) :
    ∃ n m2', n ≤ 4 ∧ Runs Q n m' m2' ∧ Sim s ls inn places sh m2 m2' := by
  have hcode := P.code _ _ S.bk S.pk
  rw [hx] at hcode
  have hoff := offS_next (s := s) (sh := sh) S.pk
  rw [hx] at hoff
  have hk : (fD x.op && (s.num x.d).isSome) = false := by rw [hD]; rfl
  obtain ⟨rg, r1, l1, k1, a1, b1, n1, c1⟩ := run_opnds H hQ S x hx hk
  have hf : fM x.op = true → opA m x = 0 ∧ x.im < 1020 := fun h => by
    have := P.frame _ _ S.bk S.pk (by rw [hx]; exact h)
    rw [hx] at this
    exact ⟨opA_none this.1, this.2⟩
  obtain ⟨_, e2, e3, e4, _⟩ := eff_same (op := x.op) (a := opA m x) (b := opB m x) (im := x.im) S.mem hf
  have hs := shX_same sh x
  have hD2 : opndD s x = (x.d, []) := by unfold opndD; rw [if_neg (by rw [hD]; decide)]
  have hlen : (codeS s (shX sh x)).length = ((opndA s x).2.length + (opndB s x).2.length) + 1 := by
    rw [codeS_keep hk, hD2]; simp only [List.length_append, List.length_cons, List.length_nil]; omega
  have hstep : ∀ pc' c, stepM { m' with rg := rg, pc := pc' } (mainS s (shX sh x)) 0 0 c = doE { m' with rg := rg, pc := pc' } (mainS s (shX sh x)) c (effM x.op (opA m x) (opB m x) x.im m'.mem) := fun pc' c => by
    rw [step_eff, a1, b1]
    show doE _ _ c (effM (shX sh x).op _ _ (shX sh x).im m'.mem) = _
    rw [hs.1, hs.2.2.2.2]
  have hdef : ∀ r, defB (atC (atB ls m.blk) m.pc) r = false := fun r => by rw [hx]; exact defB_no hD
  have hval : ∀ r, behB (atB ls m.blk) m.pc inn r = true → VAt s rg m'.mem r (m.rg.getD r.toNat 0) := fun r h =>
    (S.val r (live_back S.pk h (hdef r))).regs fun c hc => k1 _ (by have := H.colR _ _ hc; omega)
  have hbeh : ∀ r, liveL ((atB ls m.blk).drop (m.pc + 1)) inn r = true → behB (atB ls m.blk) m.pc inn r = true := fun r h => by unfold behB; rw [h]; rfl
  have hc0 := c1 0 (by omega)
  rcases he with ⟨q, hq, ho1, ho2, rfl⟩ | ⟨hj, hT, rfl⟩ | ⟨hn, ho, rfl⟩
  · obtain ⟨q', hq', hmq, hfr⟩ := e2 q hq
    have hnl : isLastB x.op = false := by unfold isLastB; exact decide_eq_false (by omega)
    have hpk := next_pc P S.bk S.pk (by rw [hx]; exact hnl)
    refine ⟨_, _, ?_, r1.add (Runs.one hc0 (m2 := { m' with rg := rg, mem := q', pc := m'.pc + ((opndA s x).2.length + (opndB s x).2.length) + 1 }) fun c => by rw [show atC (mainS s (shX sh x) :: (opndD s x).2) 0 = mainS s (shX sh x) from rfl, hstep, hq']; rfl), S.blk, ?_, fun r hl => ?_, hmq, l1, S.rw, ?_, S.bk, hpk⟩
    · omega
    · show m'.pc + ((opndA s x).2.length + (opndB s x).2.length) + 1 = offS s sh (atB ls m.blk) (m.pc + 1)
      rw [hoff, S.pc, hlen]; omega
    · exact (hval r (hbeh r hl)).mem fun p _ => hfr p.toNat
    · show q.length = 32768
      have hml := S.mem.1
      have h2 : q'.length = m'.mem.length := by
        unfold effM at hq'
        repeat' split at hq'
        all_goals (first | (cases hq'; exact wrF_len _ _ _ _) | cases hq')
      have := hmq.1
      rw [S.ml] at hml
      omega
  · have hpar := (code_parts hcode).2.2.2.2.2.2.2.1 hT
    have hto : (shX sh x).to = x.to + sh := by unfold shX; rw [if_pos hT]
    refine ⟨_, _, ?_, r1.add (Runs.one hc0 (m2 := { m' with rg := rg, blk := (x.to + sh).toNat, pc := 0 }) fun c => by rw [show atC (mainS s (shX sh x) :: (opndD s x).2) 0 = mainS s (shX sh x) from rfl, hstep, e3 hj]; show Run.on { m' with rg := rg, blk := (shX sh x).to.toNat, pc := 0 } = _; rw [hto]), ?_, rfl, fun r hl => ?_, S.mem, l1, S.rw, S.ml, ?_, ?_⟩
    · omega
    · show (x.to + sh).toNat = x.to.toNat + sh
      omega
    · have hl2 : liveL (atB ls x.to.toNat) inn r = true := hl
      have h3 := P.fix x.to.toNat r (by omega) hl2
      exact hval r (by unfold behB; rw [hx, hT, show x.to = ((x.to.toNat : Nat) : Int) by omega, h3]; simp)
    · show x.to.toNat < ls.length
      omega
    · show 0 < (atB ls x.to.toNat).length
      exact P.some _ (by omega)
  · have hnl : isLastB x.op = false := by unfold isLastB; exact decide_eq_false (by omega)
    have hpk := next_pc P S.bk S.pk (by rw [hx]; exact hnl)
    refine ⟨_, _, ?_, r1.add (Runs.one hc0 (m2 := { m' with rg := rg, pc := m'.pc + ((opndA s x).2.length + (opndB s x).2.length) + 1 }) fun c => by rw [show atC (mainS s (shX sh x) :: (opndD s x).2) 0 = mainS s (shX sh x) from rfl, hstep, e4 hn]; rfl), S.blk, ?_, fun r hl => hval r (hbeh r hl), S.mem, l1, S.rw, S.ml, S.bk, hpk⟩
    · omega
    · show m'.pc + ((opndA s x).2.length + (opndB s x).2.length) + 1 = offS s sh (atB ls m.blk) (m.pc + 1)
      rw [hoff, S.pc, hlen]; omega
/-- A run that ends by itself. -/
theorem sim_run (H : SeatOk s ls inn places) (P : ProgOk ls inn regs) (hQ : ∀ b, b < ls.length → atB Q (b + sh) = blockS s sh (atB ls b)) :
    ∀ (f : Nat) (m m' : Mach) (n : Nat) (mem : List Int) (e : Int) (c : Nat) (t : Bool), Sim s ls inn places sh m m' → (m.rg.length : Int) = regs → runM ls 0 0 f m n = (mem, e, c, t) → e = 1 ∨ e = 2 →
      ∃ mem', MemEq places mem mem' ∧ ∀ F n', 4 * f ≤ F → ∃ c' t', runM Q 0 0 F m' n' = (mem', e, c', t')
  | 0, m, m', n, mem, e, c, t, S, _, hr, he => by
    unfold runM at hr
    simp only [Prod.mk.injEq] at hr
    omega
  | f + 1, m, m', n, mem, e, c, t, S, hr0, hr, he => by
    obtain ⟨x, hx⟩ : ∃ x, atC (atB ls m.blk) m.pc = x := ⟨_, rfl⟩
    have hcode := P.code _ _ S.bk S.pk
    rw [hx] at hcode
    have hst : stepM m (atC (atB ls m.blk) m.pc) 0 0 n = doE m x n (effM x.op (opA m x) (opB m x) x.im m.mem) := by rw [hx]; exact step_eff m x n
    have hgo : ∀ m2, stepM m (atC (atB ls m.blk) m.pc) 0 0 n = .on m2 → (m2.rg.length : Int) = regs → (∃ k m2', k ≤ 4 ∧ Runs Q k m' m2' ∧ Sim s ls inn places sh m2 m2') → ∃ mem', MemEq places mem mem' ∧ ∀ F n', 4 * (f + 1) ≤ F → ∃ c' t', runM Q 0 0 F m' n' = (mem', e, c', t') := fun m2 h1 h2 ⟨k, m2', hk, h3, h4⟩ => by
      rw [runM_on h1] at hr
      obtain ⟨mem', h5, h6⟩ := sim_run H P hQ f m2 m2' _ mem e c t h4 h2 hr he
      refine ⟨mem', h5, fun F n' hF => ?_⟩
      obtain ⟨c', t', h7⟩ := h6 (F - k) (n' + k) (by omega)
      refine ⟨c', t', ?_⟩
      rw [show F = (F - k) + k by omega, h3, h7]
    have hout : ∀ mm ee cc tt, stepM m (atC (atB ls m.blk) m.pc) 0 0 n = .out mm ee cc tt → mm = mem ∧ ee = e := fun mm ee cc tt h => by
      rw [runM_out h] at hr
      simp only [Prod.mk.injEq] at hr
      exact ⟨hr.1, hr.2.1⟩
    rcases eff_kind (op := x.op) (a := opA m x) (b := opB m x) (im := x.im) (mem := m.mem) (code_parts hcode).1 with ⟨v, h1, h2⟩ | ⟨q, h1, h2, h3⟩ | ⟨h1, h2⟩ | ⟨h1, h2⟩ | ⟨e', h1, h2⟩ | h1 | h1
    · have hv : isW v := eff_word (by unfold opA; exact ite_w (getD_w S.rw _) zero_w) (by unfold opB; exact ite_w (getD_w S.rw _) zero_w) (by rw [← hx]; exact P.im _ _) h1
      exact hgo _ (by rw [hst, h1]; rfl) (by show ((m.rg.set _ _).length : Int) = _; rw [List.length_set]; exact hr0) (sim_put H P hQ S hr0 x hx h2 v h1 hv)
    · exact hgo { m with mem := q, pc := m.pc + 1 } (by rw [hst, h1]; rfl) hr0 (sim_other H P hQ S x hx (by unfold fD; exact decide_eq_false (by omega)) _ (.inl ⟨q, h1, h2, h3, rfl⟩))
    · exact hgo { m with blk := x.to.toNat, pc := 0 } (by rw [hst, h1]; rfl) hr0 (sim_other H P hQ S x hx (fT_fD h2) _ (.inr (.inl ⟨h1, h2, rfl⟩)))
    · exact hgo { m with pc := m.pc + 1 } (by rw [hst, h1]; rfl) hr0 (sim_other H P hQ S x hx (by unfold fD; exact decide_eq_false (by omega)) _ (.inr (.inr ⟨h1, h2, rfl⟩)))
    · -- it ends
      obtain ⟨rfl, rfl⟩ := hout m.mem e' (n + 1) m.tch (by rw [hst, h1]; rfl)
      have hD : fD x.op = false := by unfold fD; exact decide_eq_false (by omega)
      have hA : fA x.op = false := by unfold fA; exact decide_eq_false (by omega)
      have hB : fB x.op = false := by unfold fB; exact decide_eq_false (by omega)
      have hM : fM x.op = false := by unfold fM; exact decide_eq_false (by omega)
      have oA : opndA s x = (x.a, []) := by unfold opndA; rw [hA]; rfl
      have oB : opndB s x = (x.b, []) := by unfold opndB; rw [hB]; rfl
      obtain ⟨rg, r1, l1, k1, a1, b1, n1, c1⟩ := run_opnds H hQ S x hx (by rw [hD]; rfl)
      rw [oA, oB] at r1 c1
      have hc0 := c1 0 (by omega)
      have hs := shX_same sh x
      obtain ⟨_, _, _, _, e5⟩ := eff_same (op := x.op) (a := opA m x) (b := opB m x) (im := x.im) S.mem (fun h => by rw [hM] at h; cases h)
      refine ⟨m'.mem, S.mem, fun F n' hF => ⟨n' + 1, m'.tch, ?_⟩⟩
      have hr1 := r1 F n'
      have hpc : m'.pc + ((x.a, ([] : List Cd)).2.length + (x.b, ([] : List Cd)).2.length) = m'.pc := rfl
      rw [show F + ((x.a, ([] : List Cd)).2.length + (x.b, ([] : List Cd)).2.length) = F from rfl, hpc] at hr1
      rw [hr1]
      obtain ⟨F0, rfl⟩ : ∃ F0, F = F0 + 1 := ⟨F - 1, by omega⟩
      refine runM_out (s := { m' with rg := rg, pc := m'.pc }) ?_
      show stepM { m' with rg := rg, pc := m'.pc } (atC (atB Q m'.blk) m'.pc) 0 0 _ = _
      rw [hpc] at hc0
      rw [show atC (atB Q m'.blk) m'.pc = mainS s (shX sh x) from hc0, step_eff, a1, b1]
      show doE _ _ _ (effM (shX sh x).op _ _ (shX sh x).im m'.mem) = _
      rw [hs.1, hs.2.2.2.2, e5 _ h1]; rfl
    · obtain ⟨_, rfl⟩ := hout m.mem 5 n m.tch (by rw [hst, h1]; rfl)
      omega
    · obtain ⟨_, rfl⟩ := hout m.mem 3 n m.tch (by rw [hst, h1]; rfl)
      omega
end
end Go.Proofs.Ytjfpaelmcepidaa.PK
namespace Go.Proofs.Ytjfpaelmcepidaa.PK
open Go.RowKit

/-- What is read before it is written is 0: the stores ahead of all. -/
def begS (s : Seats) (l0 : List Int) : List Cd := l0.filterMap fun r => (s.frm r).map fun p => cSw s.k p
def begP (s : Seats) (l0 : List Int) : List Int := l0.filterMap fun r => s.frm r
def cJmp : Cd := ⟨24, 0, 0, 0, 0, 1⟩
theorem begS_is (s : Seats) (l0 : List Int) : begS s l0 = (begP s l0).map fun p => cSw s.k p := by
  unfold begS begP
  induction l0 with
  | nil => rfl
  | cons r l ih =>
    rw [List.filterMap_cons, List.filterMap_cons]
    cases s.frm r <;> simp [ih]
def shiftS (s : Seats) (l0 : List Int) : Nat := if begS s l0 = [] then 0 else 1
/-- The program with few registers. -/
def outS (s : Seats) (ls : List (List Cd)) (l0 : List Int) : List (List Cd) := (if begS s l0 = [] then [] else [begS s l0 ++ [cJmp]]) ++ ls.map (blockS s (shiftS s l0))
theorem outS_at {s : Seats} {ls : List (List Cd)} {l0 : List Int} {b : Nat} (h : b < ls.length) : atB (outS s ls l0) (b + shiftS s l0) = blockS s (shiftS s l0) (atB ls b) := by
  have e : ∀ (x : List Cd → List Cd), (ls.map x).getD b [] = x (atB ls b) := fun x => by
    rw [List.getD_eq_getElem?_getD, List.getElem?_map, List.getElem?_eq_getElem h, atB_get h]; rfl
  unfold outS atB
  by_cases c : begS s l0 = []
  · have h0 : shiftS s l0 = 0 := if_pos c
    rw [h0, if_pos c, List.nil_append, Nat.add_zero]
    exact e _
  · have h1 : shiftS s l0 = 1 := if_neg c
    rw [h1, if_neg c]
    show (_ :: ls.map (blockS s 1)).getD (b + 1) [] = _
    rw [List.getD_cons_succ]
    exact e _
theorem run_begin {s : Seats} {Q : List (List Cd)} {places : Nat} (hb : places ≤ 200) : ∀ (l : List Int) (m : Mach), (∀ j, j < l.length → atC (atB Q m.blk) (m.pc + j) = cSw s.k (l.getD j 0)) → (∀ p ∈ l, 0 ≤ p ∧ p < places) → m.rg.getD s.k 0 = 0 → m.mem.length = 32768 →
    ∃ mem, Runs Q l.length m { m with mem := mem, pc := m.pc + l.length } ∧ MemEq places m.mem mem ∧ (∀ p ∈ l, rdF mem (1024 + 4 * p.toNat) 4 = 0) ∧ ∀ p : Nat, rdF m.mem (1024 + 4 * p) 4 = 0 → rdF mem (1024 + 4 * p) 4 = 0
  | [], m, _, _, _, _ => ⟨m.mem, Runs.zero _ _, MemEq.refl _ _, fun _ h => (by cases h), fun _ h => h⟩
  | p :: l, m, hc, hp, hk, hl => by
    have hp0 := hp p (by simp)
    have h1 : Runs Q 1 m { m with mem := wrF m.mem (1024 + 4 * p.toNat) 4 0, pc := m.pc + 1 } := by
      refine Runs.one (y := cSw s.k p) (hc 0 (by simp)) fun c => ?_
      rw [step_eff]
      have ha : opA m (cSw s.k p) = 0 := opA_none (by show (-1 : Int) < 0; decide)
      have hb2 : opB m (cSw s.k p) = 0 := by
        rw [opB_yes (by show fB 23 = true; decide)]
        show m.rg.getD ((s.k : Nat) : Int).toNat 0 = 0
        rw [Int.toNat_natCast]; exact hk
      have hpl : ((0 + ((1024 + 4 * p.toNat : Nat) : Int)) % 4294967296).toNat = 1024 + 4 * p.toNat := by omega
      have hef : effM (cSw s.k p).op 0 0 (cSw s.k p).im m.mem = .sto (wrF m.mem (1024 + 4 * p.toNat) 4 0) := by
        show effM 23 0 0 (1024 + 4 * p.toNat) m.mem = _
        unfold effM
        rw [if_pos (by decide), hpl, show nB 23 = 4 from by decide, if_neg (by omega), if_pos (by decide)]
      rw [ha, hb2, hef]; rfl
    have hz : ∀ q : Nat, (q = p.toNat ∨ rdF m.mem (1024 + 4 * q) 4 = 0) → rdF (wrF m.mem (1024 + 4 * p.toNat) 4 0) (1024 + 4 * q) 4 = 0 := fun q hq => by
      by_cases e : q = p.toNat
      · subst e; exact rd_wr zero_w (by omega)
      · rw [rdF_congr fun j h1 h2 => wrF_out (by omega)]
        exact hq.resolve_left e
    obtain ⟨mem, h2, h3, h4, h5⟩ := run_begin hb l { m with mem := wrF m.mem (1024 + 4 * p.toNat) 4 0, pc := m.pc + 1 } (fun j hj => by
      have := hc (j + 1) (by simp; omega)
      rw [List.getD_cons_succ] at this
      show atC (atB Q m.blk) (m.pc + 1 + j) = _
      rw [show m.pc + 1 + j = m.pc + (j + 1) by omega]; exact this) (fun q hq => hp q (by simp [hq])) hk (by show (wrF _ _ _ _).length = _; rw [wrF_len]; exact hl)
    have hm1 : MemEq places m.mem (wrF m.mem (1024 + 4 * p.toNat) 4 0) := (MemEq.refl places m.mem).frame (by omega) 0
    refine ⟨mem, ?_, ⟨h3.1.trans hm1.1, fun j hj => (h3.2 j hj).trans (hm1.2 j hj)⟩, fun q hq => ?_, fun q hq => h5 q (hz q (.inr hq))⟩
    · have := h1.add h2
      rw [show 1 + l.length = (p :: l).length by simp; omega] at this
      rw [show (p :: l).length = l.length + 1 from rfl] at this ⊢
      rw [show m.pc + (l.length + 1) = m.pc + 1 + l.length by omega]
      exact this
    · rcases List.mem_cons.1 hq with rfl | hq
      · exact h5 _ (hz _ (.inl rfl))
      · exact h4 q hq
/-- The program with few registers ends as the program does, with the same memory but for the frame. -/
theorem alloc_run {s : Seats} {ls : List (List Cd)} {inn : Int → Int → Bool} {places : Nat} {regs : Int} {l0 : List Int} (H : SeatOk s ls inn places) (P : ProgOk ls inn regs) (hr : 0 ≤ regs) (hn : 0 < ls.length) (hl0 : ∀ r, inn 0 r = true → r ∈ l0) (hll : l0.length ≤ 200)
    {mem a : List Int} {e : Int} {c : Nat} {t : Bool} (hm : mem.length = 32768) (hrun : runM ls 0 0 2000 ⟨List.replicate regs.toNat 0, mem, 0, 0, false⟩ 0 = (a, e, c, t)) (he : e = 1 ∨ e = 2) :
    ∃ b, MemEq places a b ∧ ∃ c' t', runM (outS s ls l0) 0 0 200000 ⟨List.replicate (s.k + 2) 0, mem, 0, 0, false⟩ 0 = (b, e, c', t') := by
  have hz : ∀ (n k : Nat), (List.replicate n (0 : Int)).getD k 0 = 0 := fun n k => by
    rw [List.getD_eq_getElem?_getD, List.getElem?_replicate]; split <;> rfl
  have hw : ∀ x ∈ List.replicate regs.toNat (0 : Int), isW x := fun x hx => by rw [List.mem_replicate] at hx; rw [hx.2]; exact zero_w
  have hfix : ∀ r, liveL ((atB ls 0).drop 0) inn r = true → inn 0 r = true := fun r h => by
    have := P.fix 0 r hn (by simpa using h)
    simpa using this
  have hval : ∀ (mem' : List Int), (∀ r p, r ∈ l0 → s.frm r = some p → rdF mem' (1024 + 4 * p.toNat) 4 = 0) → ∀ r, liveL ((atB ls 0).drop 0) inn r = true → VAt s (List.replicate (s.k + 2) 0) mem' r ((List.replicate regs.toNat (0 : Int)).getD r.toNat 0) := fun mem' hz2 r h => by
    have hi := hfix r h
    rw [hz]
    unfold VAt
    cases h1 : s.col r with
    | some c => exact hz _ _
    | none =>
      cases h2 : s.num r with
      | some n => rw [(H.num r n h2).2] at hi; cases hi
      | none =>
        cases h3 : s.frm r with
        | some p => exact hz2 r p (hl0 r hi) h3
        | none => trivial
  by_cases hb : begS s l0 = []
  · have hs0 : shiftS s l0 = 0 := if_pos hb
    have S : Sim s ls inn places (shiftS s l0) ⟨List.replicate regs.toNat 0, mem, 0, 0, false⟩ ⟨List.replicate (s.k + 2) 0, mem, 0, 0, false⟩ :=
      ⟨by rw [hs0], rfl, hval mem fun r p h1 h2 => (by
        have : p ∈ begP s l0 := by unfold begP; rw [List.mem_filterMap]; exact ⟨r, h1, h2⟩
        rw [begS_is, List.map_eq_nil_iff] at hb
        rw [hb] at this; cases this), MemEq.refl _ _, by simp, hw, hm, hn, P.some 0 hn⟩
    obtain ⟨b, h1, h2⟩ := sim_run H P (fun b hb => outS_at hb) 2000 _ _ 0 a e c t S (by simp; omega) hrun he
    obtain ⟨c', t', h3⟩ := h2 200000 0 (by omega)
    exact ⟨b, h1, c', t', h3⟩
  · have hs1 : shiftS s l0 = 1 := if_neg hb
    have hQ0 : atB (outS s ls l0) 0 = begS s l0 ++ [cJmp] := by unfold outS atB; rw [if_neg hb]; rfl
    have hlen : (begS s l0).length = (begP s l0).length := by rw [begS_is, List.length_map]
    have hlp : (begP s l0).length ≤ 200 := Nat.le_trans (List.length_filterMap_le _ _) hll
    obtain ⟨mem2, h1, h2, h3, _⟩ := run_begin (s := s) (Q := outS s ls l0) H.big (begP s l0) ⟨List.replicate (s.k + 2) 0, mem, 0, 0, false⟩ (fun j hj => by
      show atC (atB (outS s ls l0) 0) (0 + j) = _
      rw [hQ0, Nat.zero_add, atC_left (by omega), begS_is]
      unfold atC
      rw [List.getD_eq_getElem?_getD, List.getElem?_map, List.getElem?_eq_getElem hj, List.getD_eq_getElem?_getD, List.getElem?_eq_getElem hj]; rfl) (fun p hp => by
      unfold begP at hp
      rw [List.mem_filterMap] at hp
      obtain ⟨r, _, h⟩ := hp
      exact H.frmR r p h) (hz _ _) hm
    have hj : Runs (outS s ls l0) 1 { (⟨List.replicate (s.k + 2) 0, mem, 0, 0, false⟩ : Mach) with mem := mem2, pc := 0 + (begP s l0).length } ⟨List.replicate (s.k + 2) 0, mem2, 1, 0, false⟩ := by
      refine Runs.one (y := cJmp) ?_ fun c => ?_
      · show atC (atB (outS s ls l0) 0) (0 + (begP s l0).length) = _
        rw [hQ0, Nat.zero_add, ← hlen]
        have := atC_right (l := begS s l0) (m := [cJmp]) (j := 0)
        rw [Nat.add_zero] at this
        rw [this]; rfl
      · rw [step_eff]
        have : ∀ x y, effM cJmp.op x y cJmp.im mem2 = .jmp := fun x y => by
          show effM 24 _ _ 0 mem2 = _
          unfold effM
          rw [if_neg (by decide), if_neg (by decide), if_neg (by decide), if_neg (by decide), if_pos (.inl rfl)]
        show doE _ _ c (effM cJmp.op _ _ cJmp.im mem2) = _
        rw [this]; rfl
    have S : Sim s ls inn places (shiftS s l0) ⟨List.replicate regs.toNat 0, mem, 0, 0, false⟩ ⟨List.replicate (s.k + 2) 0, mem2, 1, 0, false⟩ :=
      ⟨by rw [hs1], rfl, hval mem2 fun r p h1 h2 => h3 p (by unfold begP; rw [List.mem_filterMap]; exact ⟨r, h1, h2⟩), h2, by simp, hw, hm, hn, P.some 0 hn⟩
    obtain ⟨b, h4, h5⟩ := sim_run H P (fun b hb => outS_at hb) 2000 _ _ 0 a e c t S (by simp; omega) hrun he
    obtain ⟨c', t', h6⟩ := h5 (200000 - ((begP s l0).length + 1)) (0 + ((begP s l0).length + 1)) (by omega)
    refine ⟨b, h4, c', t', ?_⟩
    have h7 := (h1.add hj) (200000 - ((begP s l0).length + 1)) 0
    rw [show 200000 - ((begP s l0).length + 1) + ((begP s l0).length + 1) = 200000 by omega] at h7
    rw [h7]; exact h6
end Go.Proofs.Ytjfpaelmcepidaa.PK
