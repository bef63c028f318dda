/- Walks of the errors of graphs and nodes. -/
import Derived.Test.YtmljmmnofhhheaaW8
namespace Go.Proofs.Ytmljmmnofhhheaa
open Go.RowKit

/-- A valid graph, its numbers as natural ones. -/
def gN (g : List (List Int)) : Gr := g.map fun r => r.map Int.toNat
theorem gN_len (g : List (List Int)) : (gN g).length = g.length := by simp [gN]
theorem gN_succ (g : List (List Int)) (k : Nat) : succ (gN g) k = (g.getD k []).map Int.toNat := by
  simp only [succ, gN, List.getD_eq_getElem?_getD, List.getElem?_map]
  cases g[k]? <;> rfl
theorem valid_parts {g : List (List Int)} (h : validE g = 0) : largeB g = false ∧ argB g = false := by
  unfold validE at h
  cases h1 : largeB g <;> cases h2 : argB g <;> simp_all
theorem valid_row {g : List (List Int)} (h : validE g = 0) {k : Nat} (hk : k < g.length) : ∀ x ∈ g.getD k [], 0 ≤ x ∧ x < g.length := by
  intro x hx
  have h2 := (valid_parts h).2
  unfold argB at h2
  rw [List.any_eq_false] at h2
  have hm : g.getD k [] ∈ g := by rw [List.getD_eq_getElem?_getD, List.getElem?_eq_getElem hk]; simp
  have h3 := h2 _ hm
  rw [Bool.not_eq_true, List.any_eq_false] at h3
  have h4 := h3 x hx
  simp [offB] at h4
  omega
theorem getD_mem_any {α : Type} {l : List α} {k : Nat} (d : α) (h : k < l.length) : l.getD k d ∈ l := by
  rw [List.getD_eq_getElem?_getD, List.getElem?_eq_getElem h]; simp
theorem getD_out {α : Type} {l : List α} {k : Nat} (d : α) (h : l.length ≤ k) : l.getD k d = d := by
  rw [List.getD_eq_getElem?_getD, List.getElem?_eq_none h]; rfl
theorem valid_ok {g : List (List Int)} (h : validE g = 0) : OkG (gN g) := by
  have h1 := (valid_parts h).1
  unfold largeB at h1
  simp only [Bool.or_eq_false_iff, decide_eq_false_iff_not] at h1
  obtain ⟨a1, a2, a3⟩ := h1
  refine ⟨fun v x hx => ?_, by rw [gN_len]; omega, by rw [gN_len]; omega, fun v => ?_⟩
  · rw [gN_len]
    rw [gN_succ] at hx
    by_cases hv : v < g.length
    · obtain ⟨y, hy, rfl⟩ := List.mem_map.1 hx
      have := valid_row h hv y hy
      omega
    · rw [getD_out [] (by omega)] at hx; cases hx
  · rw [gN_succ, List.length_map]
    by_cases hv : v < g.length
    · rw [List.any_eq_false] at a3
      have := a3 _ (getD_mem_any [] hv)
      simp only [decide_eq_true_eq] at this
      omega
    · rw [getD_out [] (by omega)]; simp
theorem valid_ints {g : List (List Int)} (h : validE g = 0) (k : Nat) : g.getD k [] = ints (succ (gN g) k) := by
  rw [gN_succ]
  unfold ints
  rw [List.map_map]
  by_cases hk : k < g.length
  · have hr := valid_row h hk
    generalize g.getD k [] = row at *
    induction row with
    | nil => rfl
    | cons x l ih =>
      rw [List.map_cons, ← ih (fun y hy => hr y (by simp [hy]))]
      have := hr x (by simp)
      simp only [Function.comp]
      rw [show ((x.toNat : Nat) : Int) = x by omega]
  · rw [getD_out [] (by omega)]; rfl
theorem RowsIn.graph {w : World} {a : Option Addr} {g : List (List Int)} (h : RowsIn w a g) (hv : validE g = 0) : GraphIn w a (gN g) := fun k hk => by
  obtain ⟨b, off, a', cap, rfl, hc, hi⟩ := h k (by rwa [gN_len] at hk)
  have e := valid_ints hv k
  rw [e, ints_len] at hc
  refine ⟨b, off, a', cap, rfl, hc, fun j hj => ?_⟩
  obtain ⟨b2, off2, rfl, hx⟩ := hi j (by rw [e, ints_len]; exact hj)
  rw [e, ints_getD] at hx
  exact ⟨b2, off2, rfl, hx⟩

def nodeE (g : List (List Int)) (l : List Int) : Int := if validE g = 0 then (if l.any (offB g.length) then 4 else 0) else validE g
noncomputable def thereE (g : List (List Int)) (l : List Int) : Int := if nodeE g l = 0 then (if l.any (fun x => !(rs (gN g) (-1) 0 x.toNat)) then 9 else 0) else nodeE g l
theorem node_valid {g : List (List Int)} {l : List Int} (h : nodeE g l = 0) : validE g = 0 ∧ ∀ x ∈ l, 0 ≤ x ∧ x < g.length := by
  unfold nodeE at h
  by_cases hv : validE g = 0
  · rw [if_pos hv] at h
    refine ⟨hv, fun x hx => ?_⟩
    cases ha : l.any (offB g.length)
    · rw [List.any_eq_false] at ha
      have := ha x hx
      simp [offB] at this
      omega
    · rw [ha] at h; cases h
  · rw [if_neg hv] at h; exact absurd h hv
theorem there_node {g : List (List Int)} {l : List Int} (h : thereE g l = 0) : nodeE g l = 0 ∧ ∀ x ∈ l, rs (gN g) (-1) 0 x.toNat = true := by
  unfold thereE at h
  by_cases hv : nodeE g l = 0
  · rw [if_pos hv] at h
    refine ⟨hv, fun x hx => ?_⟩
    cases ha : l.any (fun x => !(rs (gN g) (-1) 0 x.toNat))
    · rw [List.any_eq_false] at ha
      simpa using ha x hx
    · rw [ha] at h; cases h
  · rw [if_neg hv] at h; exact absurd h hv

set_option maxRecDepth 100000 in
set_option maxHeartbeats 1000000 in
theorem noded_any (g : List (List Int)) (a : Option Addr) (cap : Nat) (l : List Int) (al : Option Addr) (cl : Nat) (w : World) (hin : RowsIn w a g) (hs : Short g) (hl : IntsIn w al l) (hl1 : l.length ≤ 1000) :
    Calls Try.prog 57 #[.slice a g.length cap, .slice al l.length cl] w fun e w' => e = .returned (.int .i64 (nodeE g l)) ∧ Below w.heap.size w w' := by
  have HV : Hid (∀ w', Below w.heap.size w w' → Calls Try.prog 25 #[.slice a g.length cap] w' fun e w'' => e = .returned (.int .i64 (validE g)) ∧ Below w'.heap.size w' w'') := Lib.hid fun w' hb => Validate_any g a cap w' (hin.below hb) hs
  have HC : Hid (∀ w', Below w.heap.size w w' → w'.cell? ⟨w.heap.size, 0, none⟩ = some (.slice a g.length cap) → Calls Try.prog 61 #[.slice al l.length cl, .func (.func 74) #[] #[.pointer (some ⟨w.heap.size, 0, none⟩)]] w' fun e w'' => e = .returned (.bool (l.any (offB g.length))) ∧ Below w'.heap.size w' w'') := Lib.hid fun w' hb hc =>
    con_noded ⟨w.heap.size, 0, none⟩ l al cl (offB g.length) w' (hl.below hb) hl1 (fun j _ w'' hb2 => off_any _ (.inr rfl) _ w.heap.size a g.length cap w'' (keep hc hb2))
  clear hin hs hl
  by_cases hv : validE g = 0
  · have hn : nodeE g l = if l.any (offB g.length) then 4 else 0 := by unfold nodeE; rw [if_pos hv]
    rw [hn]; rw [hv] at HV
    clear hn hv
    generalize l.any (offB g.length) = B at *
    cases B
    all_goals
      go_enter Try.func57, Try.ntmps57
      go_wp2_with fail
      refine (HV.out _ ((Below.refl _ _).alloc (Nat.le_refl _) _)).mono ?_; rintro e w1 ⟨rfl, hb1⟩
      have hc1 := bc hb1 (b := w.heap.size) (by simp)
      have hk1 : w1.cell? ⟨w.heap.size, 0, none⟩ = some (.slice a g.length cap) := by rw [hc1]; simp [go_sem]
      have HK := Lib.hid hk1
      have HB1 := Lib.hid (((Below.refl _ _).alloc (Nat.le_refl _) _).trans (hb1.mono (by simp)) : Below w.heap.size w w1)
      clear hc1 hb1
      go_wp2_with fail
      refine (HC.out _ HB1.out HK.out).mono ?_; rintro e w2 ⟨rfl, hb2⟩
      go_wp2_with fail
      go_ret
      exact ⟨rfl, HB1.out.trans (hb2.mono HB1.out.size)⟩
  · have hn : nodeE g l = validE g := by unfold nodeE; rw [if_neg hv]
    rw [hn]
    clear hn
    generalize validE g = V at *
    have hvb : (V != 0) = true := by simpa using hv
    clear hv
    go_enter Try.func57, Try.ntmps57
    go_wp2_with fail
    refine (HV.out _ ((Below.refl _ _).alloc (Nat.le_refl _) _)).mono ?_; rintro e w1 ⟨rfl, hb1⟩
    have HB1 := Lib.hid (((Below.refl _ _).alloc (Nat.le_refl _) _).trans (hb1.mono (by simp)) : Below w.heap.size w w1)
    clear hb1
    go_wp2_with fail
    go_ret
    exact ⟨rfl, HB1.out⟩

set_option maxRecDepth 100000 in
set_option maxHeartbeats 1000000 in
theorem rNode_any (g : List (List Int)) (a : Option Addr) (cap : Nat) (l : List Int) (al : Option Addr) (cl : Nat) (w : World) (hin : RowsIn w a g) (hs : Short g) (hl : IntsIn w al l) (hl1 : l.length ≤ 1000) :
    Calls Try.prog 58 #[.slice a g.length cap, .slice al l.length cl] w fun e w' => e = .returned (.int .i64 (nodeE g l)) ∧ w = w' := by
  have hg1 := hs.len
  have HV := Lib.hid (rValidate_any g a cap w hin hs)
  have HL := Lib.hid hl
  clear hin hs hl
  by_cases hv : validE g = 0
  · have hn : nodeE g l = if l.any (offB g.length) then 4 else 0 := by unfold nodeE; rw [if_pos hv]
    rw [hn]; rw [hv] at HV
    clear hn hv
    have hF : NoneYet l (offB g.length) l.length → (if l.any (offB g.length) then (4 : Int) else 0) = 0 := fun h => by rw [h.fin]; rfl
    have hT : ∀ k, k < l.length → offB g.length (l.getD k 0) = true → (if l.any (offB g.length) then (4 : Int) else 0) = 4 := fun k hk h => by rw [any_here (d := 0) hk h]; rfl
    have HF := Lib.hid hF; have HT := Lib.hid hT; clear hF hT
    generalize (if l.any (offB g.length) then (4 : Int) else 0) = V at *
    go_enter Try.func58, Try.ntmps58
    go_wp2_with fail
    refine HV.out.mono ?_; rintro e w1 ⟨rfl, rfl⟩
    go_wp2_with fail
    go_loop [6] (fun i => ∃ k : Nat, k ≤ l.length ∧ i = .int .i64 k ∧ NoneYet l (offB g.length) k) (fun i => l.length - (intOf i).toNat)
    case atStart => exact ⟨0, Nat.zero_le _, rfl, NoneYet.zero⟩
    case round =>
      obtain ⟨k, hk, rfl, hny⟩ := hrel
      by_cases hlt : k < l.length
      · obtain ⟨b, off, rfl, hx⟩ := HL.out k hlt
        have HN := Lib.hid hny; clear hny
        generalize hxx : l.getD k 0 = x at *
        have HX := Lib.hid hxx; clear hxx
        by_cases hneg : x < 0
        · go_wp2_with fail
          go_ret
          exact ⟨ret_int (HT.out k hlt (by rw [HX.out]; simp [offB, hneg])).symm, rfl⟩
        · by_cases hbig : (g.length : Int) ≤ x
          · go_wp2_with fail
            go_ret
            exact ⟨ret_int (HT.out k hlt (by rw [HX.out]; simp [offB, hbig])).symm, rfl⟩
          · go_wp2_with fail
            go_round
            case rel => exact ⟨k + 1, by omega, by go_num, HN.out.next (d := 0) hlt (by rw [HX.out]; simp [offB]; omega)⟩
            case measure => simp [intOf]; omega
      · obtain rfl : k = l.length := by omega
        have HN := Lib.hid hny; clear hny
        go_wp2_with fail
        go_ret
        exact ⟨ret_int (HF.out HN.out).symm, rfl⟩
  · have hn : nodeE g l = validE g := by unfold nodeE; rw [if_neg hv]
    rw [hn]
    clear hn
    generalize validE g = V at *
    have hvb : (V != 0) = true := by simpa using hv
    clear hv
    go_enter Try.func58, Try.ntmps58
    go_wp2_with fail
    refine HV.out.mono ?_; rintro e w1 ⟨rfl, rfl⟩
    go_wp2_with fail
    go_ret
    exact ⟨rfl, rfl⟩
end Go.Proofs.Ytmljmmnofhhheaa
