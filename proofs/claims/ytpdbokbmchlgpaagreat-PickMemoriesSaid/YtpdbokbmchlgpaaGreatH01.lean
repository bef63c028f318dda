/- Packed of several texts. -/
import Derived.Test.YtpdbokbmchlgpaaGreatH00
import Derived.OpenShut
import Derived.Deep.Slices
import Derived.Laws.Closers25b
namespace Go.Proofs.YtpdbokbmchlgpaaGreat.PK
open Go.RowKit

theorem addr_flat {w : World} {a : Addr} {v : Value} (h : w.cell? a = some v) : a = ⟨a.block, a.off, none⟩ := by
  obtain ⟨b, o, s⟩ := a
  cases s with
  | none => rfl
  | some x =>
    unfold World.cell? at h
    split at h
    · simp at h
    · cases h
theorem add_flat {a : Addr} (h : a = ⟨a.block, a.off, none⟩) (k : Nat) : a.add k = ⟨a.block, a.off + k, none⟩ := by
  unfold Addr.add
  split
  · rename_i h0; subst h0; exact h
  · rfl
/-- The number of an integer. -/
def intV : Value → Int
  | .int _ n => n
  | _ => 0
theorem u32_cells : Tryz.prog.cellsOf 41 = 1 := by kernel_rfl
theorem int_cells : Tryz.prog.cellsOf 3 = 1 := by kernel_rfl
set_option maxRecDepth 100000 in
theorem open_ints {H : Type} {enc : TypeId × Value → H} {w : World} {base fuel : Nat} {held : Bool} {v : Value} {x : DataW H × List MemPlace}
    (h : DataW.trod enc Tryz.prog w base (fun _ => true) held fuel 22 [v] = some x) :
    ∃ a cap l, v = .slice a l.length cap ∧ IntsIn w a l ∧ l.length ≤ cap ∧ l.length ≤ maxLen := by
  rcases Deep.open_slice1 Tryz.underlying22 int_cells h with ⟨hv, _⟩ | ⟨a, len, cap, m, n, V, D, Pl, hv, _, hlc, hcm, hm, _, hall⟩
  · simp only [List.cons.injEq, and_true] at hv
    exact ⟨none, 0, [], hv, fun _ hk => absurd hk (Nat.not_lt_zero _), Nat.zero_le _, Nat.zero_le _⟩
  · simp only [List.cons.injEq, and_true] at hv
    rw [if_pos rfl] at hm
    have hint : ∀ i, i < cap → ∃ x : Int, w.cell? (a.add i) = some (.int .i64 x) := fun i hi => by
      obtain ⟨h1, h2⟩ := hall i (by omega)
      obtain ⟨x, hx, _, _⟩ := DataW.trod_int Tryz.underlying3 h2
      simp only [List.cons.injEq, and_true] at hx
      exact ⟨x, by rw [h1, hx]⟩
    refine ⟨some a, cap, (List.range len).map fun i => intV ((w.cell? (a.add i)).getD (.int .i64 0)), by simpa using hv, fun k hk => ?_, by simpa using hlc, by simp; omega⟩
    have hk : k < len := by simpa using hk
    obtain ⟨x, h1⟩ := hint k (by omega)
    obtain ⟨x0, h10⟩ := hint 0 (by omega)
    have hf : a = ⟨a.block, a.off, none⟩ := by
      have e : a.add 0 = a := by unfold Addr.add; simp
      rw [e] at h10
      exact addr_flat h10
    have eg : ((List.range len).map fun i => intV ((w.cell? (a.add i)).getD (.int .i64 0))).getD k 0 = x := by
      simp [List.getD_eq_getElem?_getD, hk, h1, intV]
    rw [eg]
    rw [add_flat hf] at h1
    exact ⟨a.block, a.off, by rw [← hf], h1⟩
end Go.Proofs.YtpdbokbmchlgpaaGreat.PK
namespace Go.Proofs.YtpdbokbmchlgpaaGreat.PK
open Go.RowKit

/-- A word. -/
def isW (a : Int) : Prop := 0 ≤ a ∧ a < 4294967296
/-- The first i bytes written. -/
def wrD (mem : List Int) (at0 : Nat) (n : Int) : Nat → List Int
  | 0 => mem
  | i + 1 => (wrD mem at0 n i).set (at0 + i) (n / 2 ^ (8 * i) % 256)
def wrF (mem : List Int) (at0 many : Nat) (n : Int) : List Int := wrD mem at0 n many
theorem wrD_len (mem : List Int) (at0 : Nat) (n : Int) : ∀ i, (wrD mem at0 n i).length = mem.length
  | 0 => rfl
  | i + 1 => by
    show (List.set _ _ _).length = _
    rw [List.length_set, wrD_len mem at0 n i]
/-- A machine: its registers, its memory, where it is, and whether something was touched. -/
structure Mach where
  rg : List Int
  mem : List Int
  blk : Nat
  pc : Nat
  tch : Bool
/-- How a run ends. -/
inductive Run where
  | on (s : Mach)
  | out (mem : List Int) (e : Int) (n : Nat) (t : Bool)
end Go.Proofs.YtpdbokbmchlgpaaGreat.PK
namespace Go.Proofs.YtpdbokbmchlgpaaGreat.PK
open Go.RowKit

/-- The cells of a slice are these words. -/
def WsIn (w : World) (a : Option Addr) (l : List Int) : Prop :=
  ∀ k, k < l.length → ∃ b off, a = some ⟨b, off, none⟩ ∧ w.cell? ⟨b, off + k, none⟩ = some (.int .u32 (l.getD k 0))
theorem WsIn.below {w w' : World} {a : Option Addr} {l : List Int} (h : WsIn w a l) (hb : Below w.heap.size w w') : WsIn w' a l := fun k hk => by
  obtain ⟨b, off, rfl, hc⟩ := h k hk
  exact ⟨b, off, rfl, keep hc hb⟩
set_option maxRecDepth 100000 in
theorem open_words {H : Type} {enc : TypeId × Value → H} {w : World} {base fuel : Nat} {held : Bool} {v : Value} {x : DataW H × List MemPlace}
    (h : DataW.trod enc Tryz.prog w base (fun _ => true) held fuel 26 [v] = some x) :
    ∃ a cap l, v = .slice a l.length cap ∧ WsIn w a l ∧ l.length ≤ cap ∧ l.length ≤ maxLen ∧ ∀ k, k < l.length → isW (l.getD k 0) := by
  rcases Deep.open_slice1 Tryz.underlying26 u32_cells h with ⟨hv, _⟩ | ⟨a, len, cap, m, n, V, D, Pl, hv, _, hlc, hcm, hm, _, hall⟩
  · simp only [List.cons.injEq, and_true] at hv
    exact ⟨none, 0, [], hv, fun _ hk => absurd hk (Nat.not_lt_zero _), Nat.zero_le _, Nat.zero_le _, fun _ hk => absurd hk (Nat.not_lt_zero _)⟩
  · simp only [List.cons.injEq, and_true] at hv
    rw [if_pos rfl] at hm
    have hint : ∀ i, i < cap → ∃ x : Int, w.cell? (a.add i) = some (.int .u32 x) ∧ isW x := fun i hi => by
      obtain ⟨h1, h2⟩ := hall i (by omega)
      obtain ⟨x, hx, _, wx⟩ := DataW.trod_int Tryz.underlying41 h2
      simp only [List.cons.injEq, and_true] at hx
      simp [Lit.wf, IntKind.min, IntKind.max, IntKind.bits, IntKind.signed] at wx
      exact ⟨x, by rw [h1, hx], by omega, by omega⟩
    have hat : ∀ k x, k < len → w.cell? (a.add k) = some (.int .u32 x) → ((List.range len).map fun i => intV ((w.cell? (a.add i)).getD (.int .i64 0))).getD k 0 = x := fun k x hk h1 => by
      simp [List.getD_eq_getElem?_getD, hk, h1, intV]
    refine ⟨some a, cap, (List.range len).map fun i => intV ((w.cell? (a.add i)).getD (.int .i64 0)), by simpa using hv, fun k hk => ?_, by simpa using hlc, by simp; omega, fun k hk => ?_⟩
    · have hk : k < len := by simpa using hk
      obtain ⟨x, h1, _⟩ := hint k (by omega)
      obtain ⟨x0, h10, _⟩ := hint 0 (by omega)
      have hf : a = ⟨a.block, a.off, none⟩ := by
        have e : a.add 0 = a := by unfold Addr.add; simp
        rw [e] at h10
        exact addr_flat h10
      rw [hat k x hk h1]
      rw [add_flat hf] at h1
      exact ⟨a.block, a.off, by rw [← hf], h1⟩
    · have hk : k < len := by simpa using hk
      obtain ⟨x, h1, h2⟩ := hint k (by omega)
      rw [hat k x hk h1]; exact h2
end Go.Proofs.YtpdbokbmchlgpaaGreat.PK
namespace Go.Proofs.YtpdbokbmchlgpaaGreat.PK
open Go.RowKit

theorem within_any (n : Int) (asked : Bool) (lo hi : Int) (w : World) : Calls Tryz.prog 150 #[.int .i64 n, .bool asked, .int .i64 lo, .int .i64 hi] w fun e w' => e = .returned (.bool (wi n asked lo hi)) ∧ w = w' := by
  cases asked
  · by_cases h : n = 0
    · have hb : (n == 0) = true := beq_iff_eq.2 h
      have hw : wi n false lo hi = true := by unfold wi; simp [h]
      rw [hw]
      clear h hw
      go_enter Tryz.func150, Tryz.ntmps150
      go_wp2_with fail
      go_ret
      exact ⟨ret_bool (by first | exact hb | rfl), rfl⟩
    · have hb : (n == 0) = false := beq_eq_false_iff_ne.2 h
      have hw : wi n false lo hi = false := by unfold wi; simp [h]
      rw [hw]
      clear h hw
      go_enter Tryz.func150, Tryz.ntmps150
      go_wp2_with fail
      go_ret
      exact ⟨ret_bool (by first | exact hb | rfl), rfl⟩
  · by_cases h1 : lo ≤ n
    · by_cases h2 : n < hi
      · have hw : wi n true lo hi = true := by unfold wi; simp [h1, h2]
        rw [hw]
        clear hw
        go_enter Tryz.func150, Tryz.ntmps150
        go_wp2_with fail
        go_ret
        exact ⟨ret_bool (by first | rfl | simp [h2]), rfl⟩
      · have hw : wi n true lo hi = false := by unfold wi; simp [h2]
        rw [hw]
        clear hw
        go_enter Tryz.func150, Tryz.ntmps150
        go_wp2_with fail
        go_ret
        exact ⟨ret_bool (by first | rfl | simp [h2]), rfl⟩
    · have hw : wi n true lo hi = false := by unfold wi; simp [h1]
      rw [hw]
      clear hw
      go_enter Tryz.func150, Tryz.ntmps150
      go_wp2_with fail
      go_ret
      exact ⟨ret_bool (by first | rfl | simp [h1]), rfl⟩
theorem within_is {n : Int} {asked : Bool} {lo hi : Int} {b : Bool} (h : wi n asked lo hi = b) (w : World) : Calls Tryz.prog 150 #[.int .i64 n, .bool asked, .int .i64 lo, .int .i64 hi] w fun e w' => e = .returned (.bool b) ∧ w = w' := by rw [← h]; exact within_any n asked lo hi w
/-- The fields of an operation, as a struct. -/
def fieldsV (op : Int) : Value := .agg #[.bool (fD op), .bool (fA op), .bool (fB op), .bool (fI op), .bool (fT op), .bool (fM op)]
theorem fields_of {op : Int} {d a b i t m o : Bool} (h : fD op = d ∧ fA op = a ∧ fB op = b ∧ fI op = i ∧ fT op = t ∧ fM op = m ∧ fO op = o) : Ending.returned (.tuple #[.agg #[.bool d, .bool a, .bool b, .bool i, .bool t, .bool m], .bool o]) = .returned (.tuple #[fieldsV op, .bool (fO op)]) := by
  obtain ⟨rfl, rfl, rfl, rfl, rfl, rfl, rfl⟩ := h
  rfl
set_option maxHeartbeats 2000000 in
theorem fieldsOf_any (op : Int) (w : World) : Calls Tryz.prog 149 #[.int .i64 op] w fun e w' => e = .returned (.tuple #[fieldsV op, .bool (fO op)]) ∧ Below w.heap.size w w' := by
  have hcases : (op = 0) ∨ (op = 1) ∨ (2 ≤ op ∧ op ≤ 17) ∨ (18 ≤ op ∧ op ≤ 20) ∨ (21 ≤ op ∧ op ≤ 23) ∨ (op = 24) ∨ (op = 25) ∨ (op = 26) ∨ (op = 27) ∨ (op < 0) ∨ (27 < op) := by omega
  rcases hcases with hc | hc | hc | hc | hc | hc | hc | hc | hc | hc | hc
  · subst hc
    have HF : Hid (fD (0 : Int) = true ∧ fA (0 : Int) = false ∧ fB (0 : Int) = false ∧ fI (0 : Int) = true ∧ fT (0 : Int) = false ∧ fM (0 : Int) = false ∧ fO (0 : Int) = true) := Lib.hid (by decide)
    go_enter Tryz.func149, Tryz.ntmps149
    go_wp2_with fail
    exact bodyPost_ret (v := .tuple #[.agg #[.bool true, .bool false, .bool false, .bool true, .bool false, .bool false], .bool true]) (by simp [results, Tryz.results149, go_sem]) rfl ⟨fields_of HF.out, (Below.refl _ _).alloc (Nat.le_refl _) _⟩
  · subst hc
    have HF : Hid (fD (1 : Int) = true ∧ fA (1 : Int) = true ∧ fB (1 : Int) = false ∧ fI (1 : Int) = false ∧ fT (1 : Int) = false ∧ fM (1 : Int) = false ∧ fO (1 : Int) = true) := Lib.hid (by decide)
    go_enter Tryz.func149, Tryz.ntmps149
    go_wp2_with fail
    exact bodyPost_ret (v := .tuple #[.agg #[.bool true, .bool true, .bool false, .bool false, .bool false, .bool false], .bool true]) (by simp [results, Tryz.results149, go_sem]) rfl ⟨fields_of HF.out, (Below.refl _ _).alloc (Nat.le_refl _) _⟩
  · have HF : Hid (fD op = true ∧ fA op = true ∧ fB op = true ∧ fI op = false ∧ fT op = false ∧ fM op = false ∧ fO op = true) := Lib.hid (by unfold fD fA fB fI fT fM fO; refine ⟨?_, ?_, ?_, ?_, ?_, ?_, ?_⟩ <;> first | exact decide_eq_true (by omega) | exact decide_eq_false (by omega))
    have n0 : (op == 0) = false := beq_eq_false_iff_ne.2 (by omega)
    have n1 : (op == 1) = false := beq_eq_false_iff_ne.2 (by omega)
    have n24 : (op == 24) = false := beq_eq_false_iff_ne.2 (by omega)
    have n25 : (op == 25) = false := beq_eq_false_iff_ne.2 (by omega)
    have n26 : (op == 26) = false := beq_eq_false_iff_ne.2 (by omega)
    have n27 : (op == 27) = false := beq_eq_false_iff_ne.2 (by omega)
    have g0 : 2 ≤ op := by omega
    have l0 : op ≤ 17 := by omega
    have g1 : ¬ 18 ≤ op := by omega
    have l1 : op ≤ 20 := by omega
    have g2 : ¬ 21 ≤ op := by omega
    have l2 : op ≤ 23 := by omega
    clear hc
    go_enter Tryz.func149, Tryz.ntmps149
    go_wp2_with fail
    exact bodyPost_ret (v := .tuple #[.agg #[.bool true, .bool true, .bool true, .bool false, .bool false, .bool false], .bool true]) (by simp [results, Tryz.results149, go_sem]) rfl ⟨fields_of HF.out, (Below.refl _ _).alloc (Nat.le_refl _) _⟩
  · have HF : Hid (fD op = true ∧ fA op = true ∧ fB op = false ∧ fI op = true ∧ fT op = false ∧ fM op = true ∧ fO op = true) := Lib.hid (by unfold fD fA fB fI fT fM fO; refine ⟨?_, ?_, ?_, ?_, ?_, ?_, ?_⟩ <;> first | exact decide_eq_true (by omega) | exact decide_eq_false (by omega))
    have n0 : (op == 0) = false := beq_eq_false_iff_ne.2 (by omega)
    have n1 : (op == 1) = false := beq_eq_false_iff_ne.2 (by omega)
    have n24 : (op == 24) = false := beq_eq_false_iff_ne.2 (by omega)
    have n25 : (op == 25) = false := beq_eq_false_iff_ne.2 (by omega)
    have n26 : (op == 26) = false := beq_eq_false_iff_ne.2 (by omega)
    have n27 : (op == 27) = false := beq_eq_false_iff_ne.2 (by omega)
    have g0 : 2 ≤ op := by omega
    have l0 : ¬ op ≤ 17 := by omega
    have g1 : 18 ≤ op := by omega
    have l1 : op ≤ 20 := by omega
    have g2 : ¬ 21 ≤ op := by omega
    have l2 : op ≤ 23 := by omega
    clear hc
    go_enter Tryz.func149, Tryz.ntmps149
    go_wp2_with fail
    exact bodyPost_ret (v := .tuple #[.agg #[.bool true, .bool true, .bool false, .bool true, .bool false, .bool true], .bool true]) (by simp [results, Tryz.results149, go_sem]) rfl ⟨fields_of HF.out, (Below.refl _ _).alloc (Nat.le_refl _) _⟩
  · have HF : Hid (fD op = false ∧ fA op = true ∧ fB op = true ∧ fI op = true ∧ fT op = false ∧ fM op = true ∧ fO op = true) := Lib.hid (by unfold fD fA fB fI fT fM fO; refine ⟨?_, ?_, ?_, ?_, ?_, ?_, ?_⟩ <;> first | exact decide_eq_true (by omega) | exact decide_eq_false (by omega))
    have n0 : (op == 0) = false := beq_eq_false_iff_ne.2 (by omega)
    have n1 : (op == 1) = false := beq_eq_false_iff_ne.2 (by omega)
    have n24 : (op == 24) = false := beq_eq_false_iff_ne.2 (by omega)
    have n25 : (op == 25) = false := beq_eq_false_iff_ne.2 (by omega)
    have n26 : (op == 26) = false := beq_eq_false_iff_ne.2 (by omega)
    have n27 : (op == 27) = false := beq_eq_false_iff_ne.2 (by omega)
    have g0 : 2 ≤ op := by omega
    have l0 : ¬ op ≤ 17 := by omega
    have g1 : 18 ≤ op := by omega
    have l1 : ¬ op ≤ 20 := by omega
    have g2 : 21 ≤ op := by omega
    have l2 : op ≤ 23 := by omega
    clear hc
    go_enter Tryz.func149, Tryz.ntmps149
    go_wp2_with fail
    exact bodyPost_ret (v := .tuple #[.agg #[.bool false, .bool true, .bool true, .bool true, .bool false, .bool true], .bool true]) (by simp [results, Tryz.results149, go_sem]) rfl ⟨fields_of HF.out, (Below.refl _ _).alloc (Nat.le_refl _) _⟩
  · subst hc
    have HF : Hid (fD (24 : Int) = false ∧ fA (24 : Int) = false ∧ fB (24 : Int) = false ∧ fI (24 : Int) = false ∧ fT (24 : Int) = true ∧ fM (24 : Int) = false ∧ fO (24 : Int) = true) := Lib.hid (by decide)
    go_enter Tryz.func149, Tryz.ntmps149
    go_wp2_with fail
    exact bodyPost_ret (v := .tuple #[.agg #[.bool false, .bool false, .bool false, .bool false, .bool true, .bool false], .bool true]) (by simp [results, Tryz.results149, go_sem]) rfl ⟨fields_of HF.out, (Below.refl _ _).alloc (Nat.le_refl _) _⟩
  · subst hc
    have HF : Hid (fD (25 : Int) = false ∧ fA (25 : Int) = true ∧ fB (25 : Int) = false ∧ fI (25 : Int) = false ∧ fT (25 : Int) = true ∧ fM (25 : Int) = false ∧ fO (25 : Int) = true) := Lib.hid (by decide)
    go_enter Tryz.func149, Tryz.ntmps149
    go_wp2_with fail
    exact bodyPost_ret (v := .tuple #[.agg #[.bool false, .bool true, .bool false, .bool false, .bool true, .bool false], .bool true]) (by simp [results, Tryz.results149, go_sem]) rfl ⟨fields_of HF.out, (Below.refl _ _).alloc (Nat.le_refl _) _⟩
  · subst hc
    have HF : Hid (fD (26 : Int) = false ∧ fA (26 : Int) = false ∧ fB (26 : Int) = false ∧ fI (26 : Int) = false ∧ fT (26 : Int) = false ∧ fM (26 : Int) = false ∧ fO (26 : Int) = true) := Lib.hid (by decide)
    go_enter Tryz.func149, Tryz.ntmps149
    go_wp2_with fail
    exact bodyPost_ret (v := .tuple #[.agg #[.bool false, .bool false, .bool false, .bool false, .bool false, .bool false], .bool true]) (by simp [results, Tryz.results149, go_sem]) rfl ⟨fields_of HF.out, (Below.refl _ _).alloc (Nat.le_refl _) _⟩
  · subst hc
    have HF : Hid (fD (27 : Int) = false ∧ fA (27 : Int) = false ∧ fB (27 : Int) = false ∧ fI (27 : Int) = false ∧ fT (27 : Int) = false ∧ fM (27 : Int) = false ∧ fO (27 : Int) = true) := Lib.hid (by decide)
    go_enter Tryz.func149, Tryz.ntmps149
    go_wp2_with fail
    exact bodyPost_ret (v := .tuple #[.agg #[.bool false, .bool false, .bool false, .bool false, .bool false, .bool false], .bool true]) (by simp [results, Tryz.results149, go_sem]) rfl ⟨fields_of HF.out, (Below.refl _ _).alloc (Nat.le_refl _) _⟩
  · have HF : Hid (fD op = false ∧ fA op = false ∧ fB op = false ∧ fI op = false ∧ fT op = false ∧ fM op = false ∧ fO op = false) := Lib.hid (by unfold fD fA fB fI fT fM fO; refine ⟨?_, ?_, ?_, ?_, ?_, ?_, ?_⟩ <;> first | exact decide_eq_true (by omega) | exact decide_eq_false (by omega))
    have n0 : (op == 0) = false := beq_eq_false_iff_ne.2 (by omega)
    have n1 : (op == 1) = false := beq_eq_false_iff_ne.2 (by omega)
    have n24 : (op == 24) = false := beq_eq_false_iff_ne.2 (by omega)
    have n25 : (op == 25) = false := beq_eq_false_iff_ne.2 (by omega)
    have n26 : (op == 26) = false := beq_eq_false_iff_ne.2 (by omega)
    have n27 : (op == 27) = false := beq_eq_false_iff_ne.2 (by omega)
    have g0 : ¬ 2 ≤ op := by omega
    have l0 : op ≤ 17 := by omega
    have g1 : ¬ 18 ≤ op := by omega
    have l1 : op ≤ 20 := by omega
    have g2 : ¬ 21 ≤ op := by omega
    have l2 : op ≤ 23 := by omega
    clear hc
    go_enter Tryz.func149, Tryz.ntmps149
    go_wp2_with fail
    exact bodyPost_ret (v := .tuple #[.agg #[.bool false, .bool false, .bool false, .bool false, .bool false, .bool false], .bool false]) (by simp [results, Tryz.results149, go_sem]) rfl ⟨fields_of HF.out, (Below.refl _ _).alloc (Nat.le_refl _) _⟩
  · have HF : Hid (fD op = false ∧ fA op = false ∧ fB op = false ∧ fI op = false ∧ fT op = false ∧ fM op = false ∧ fO op = false) := Lib.hid (by unfold fD fA fB fI fT fM fO; refine ⟨?_, ?_, ?_, ?_, ?_, ?_, ?_⟩ <;> first | exact decide_eq_true (by omega) | exact decide_eq_false (by omega))
    have n0 : (op == 0) = false := beq_eq_false_iff_ne.2 (by omega)
    have n1 : (op == 1) = false := beq_eq_false_iff_ne.2 (by omega)
    have n24 : (op == 24) = false := beq_eq_false_iff_ne.2 (by omega)
    have n25 : (op == 25) = false := beq_eq_false_iff_ne.2 (by omega)
    have n26 : (op == 26) = false := beq_eq_false_iff_ne.2 (by omega)
    have n27 : (op == 27) = false := beq_eq_false_iff_ne.2 (by omega)
    have g0 : 2 ≤ op := by omega
    have l0 : ¬ op ≤ 17 := by omega
    have g1 : 18 ≤ op := by omega
    have l1 : ¬ op ≤ 20 := by omega
    have g2 : 21 ≤ op := by omega
    have l2 : ¬ op ≤ 23 := by omega
    clear hc
    go_enter Tryz.func149, Tryz.ntmps149
    go_wp2_with fail
    exact bodyPost_ret (v := .tuple #[.agg #[.bool false, .bool false, .bool false, .bool false, .bool false, .bool false], .bool false]) (by simp [results, Tryz.results149, go_sem]) rfl ⟨fields_of HF.out, (Below.refl _ _).alloc (Nat.le_refl _) _⟩
theorem isLast_any (op : Int) (w : World) : Calls Tryz.prog 92 #[.int .i64 op] w fun e w' => e = .returned (.bool (isLastB op)) ∧ w = w' := by
  by_cases h1 : op = 24
  · subst h1
    go_enter Tryz.func92, Tryz.ntmps92
    go_wp2_with fail
    go_ret
    exact ⟨rfl, rfl⟩
  by_cases h2 : op = 26
  · subst h2
    go_enter Tryz.func92, Tryz.ntmps92
    go_wp2_with fail
    go_ret
    exact ⟨rfl, rfl⟩
  by_cases h3 : op = 27
  · subst h3
    go_enter Tryz.func92, Tryz.ntmps92
    go_wp2_with fail
    go_ret
    exact ⟨rfl, rfl⟩
  have hb : isLastB op = false := by unfold isLastB; simp [h1, h2, h3]
  have n1 : (op == 24) = false := beq_eq_false_iff_ne.2 h1
  have n2 : (op == 26) = false := beq_eq_false_iff_ne.2 h2
  have n3 : (op == 27) = false := beq_eq_false_iff_ne.2 h3
  rw [hb]
  clear hb h1 h2 h3
  go_enter Tryz.func92, Tryz.ntmps92
  go_wp2_with fail
  go_ret
  exact ⟨ret_bool (by first | exact n3 | rfl), rfl⟩
end Go.Proofs.YtpdbokbmchlgpaaGreat.PK
