/- The walk of SameLists; what is renamed is a valid graph again; opening an argument []int. -/
import Derived.Test.YtmljmmnofhhheaaN3
import Derived.Test.YtmljmmnofhhheaaL5
import Derived.Test.YtmljmmnofhhheaaO
import Derived.ChangeSlices
namespace Go.Proofs.Ytmljmmnofhhheaa
open Go.RowKit

set_option maxRecDepth 100000 in
set_option maxHeartbeats 2000000 in
theorem sameLists_self (G : Gr) (a b : Option Addr) (ca cb : Nat) (w : World) (ha : GraphIn w a G) (hb : GraphIn w b G) (hl : G.length ≤ 1000) (hr : ∀ k, (succ G k).length ≤ 1000) :
    Calls Try.prog 33 #[.slice a G.length ca, .slice b G.length cb] w fun e w' => e = .returned (.bool true) ∧ Below w.heap.size w w' := by
  have HA := Lib.hid ha; have HB := Lib.hid hb; have HR := Lib.hid hr
  have hbe : ((G.length : Int) == (G.length : Int)) = true := by simp
  clear ha hb hr
  go_enter Try.func33, Try.ntmps33
  go_wp2_with fail
  go_loopw [5] (fun i wr => ∃ k : Nat, k ≤ G.length ∧ i = .int .i64 k ∧ Below w.heap.size w wr) (fun i _ => G.length - (intOf i).toNat)
  case atStart => exact ⟨0, Nat.zero_le _, rfl, Below.refl _ _⟩
  case round =>
    obtain ⟨k, hk, rfl, hbl⟩ := hrel
    by_cases hlt : k < G.length
    · have hki : (k : Int) < (G.length : Int) := by omega
      obtain ⟨b1, o1, r1, c1, rfl, h1, n1⟩ := HA.out.below hbl k hlt
      obtain ⟨b2, o2, r2, c2, rfl, h2, n2⟩ := HB.out.below hbl k hlt
      have HS : Hid (Calls Try.prog 21 #[.slice r1 (succ G k).length c1, .slice r2 (succ G k).length c2] wr.drew fun e w' => e = .returned (.bool true) ∧ Below wr.drew.heap.size wr.drew w') := Lib.hid (sameInts_self (succ G k) r1 r2 c1 c2 wr.drew (n1.below ((Below.refl _ _).drew)) (n2.below ((Below.refl _ _).drew)) (HR.out k))
      have HBl := Lib.hid hbl
      clear n1 n2 hbl
      generalize succ G k = s at *
      go_wp2_with fail
      go_still_tail 8, (by kernel_rfl)
      change wpList _ _ _ _ _ wr.drew
      go_wp2_with fail
      refine HS.out.mono ?_; rintro e w3 ⟨rfl, hb3⟩
      have HB3 : Hid (Below w.heap.size w w3) := Lib.hid (HBl.out.drew.trans (hb3.mono HBl.out.size))
      clear hb3
      go_wp2_with fail
      go_roundw
      case rel => exact ⟨k + 1, by omega, by go_num, HB3.out⟩
      case measure => simp [intOf]; omega
    · obtain rfl : k = G.length := by omega
      go_wp2_with fail
      go_ret
      exact ⟨rfl, hbl⟩

def intsG (G : Gr) : List (List Int) := G.map ints
theorem intsG_len (G : Gr) : (intsG G).length = G.length := by simp [intsG]
theorem intsG_at (G : Gr) (k : Nat) : (intsG G).getD k [] = ints (succ G k) := by
  simp only [intsG, succ, List.getD_eq_getElem?_getD, List.getElem?_map]
  cases G[k]? <;> rfl
theorem ints_back (xs : List Nat) : (ints xs).map Int.toNat = xs := by
  unfold ints
  rw [List.map_map]
  conv => rhs; rw [← List.map_id xs]
  exact List.map_congr_left fun x _ => by simp
theorem gN_intsG (G : Gr) : gN (intsG G) = G := by
  unfold gN intsG
  rw [List.map_map]
  conv => rhs; rw [← List.map_id G]
  exact List.map_congr_left fun x _ => ints_back x
theorem graph_rows {w : World} {a : Option Addr} {G : Gr} (h : RowsIn w a (intsG G)) : GraphIn w a G := fun k hk => by
  obtain ⟨b, off, a', cap, rfl, hc, hi⟩ := h k (by rw [intsG_len]; exact hk)
  rw [intsG_at, ints_len] at hc
  refine ⟨b, off, a', cap, rfl, hc, fun j hj => ?_⟩
  obtain ⟨b2, off2, rfl, hx⟩ := hi j (by rw [intsG_at, ints_len]; exact hj)
  rw [intsG_at, ints_getD] at hx
  exact ⟨b2, off2, rfl, hx⟩
theorem valid_intsG {G : Gr} (ok : OkG G) : validE (intsG G) = 0 := by
  have hl : largeB (intsG G) = false := by
    unfold largeB
    rw [intsG_len, Bool.or_eq_false_iff, Bool.or_eq_false_iff, decide_eq_false_iff_not, decide_eq_false_iff_not, List.any_eq_false]
    refine ⟨by have := ok.pos; omega, by have := ok.ten; omega, fun r hr => ?_⟩
    obtain ⟨s, hs, rfl⟩ := List.mem_map.1 hr
    obtain ⟨k, hk, rfl⟩ := List.mem_iff_getElem.1 hs
    have := ok.deg k
    unfold succ at this
    rw [List.getD_eq_getElem?_getD, List.getElem?_eq_getElem hk] at this
    rw [ints_len, decide_eq_true_iff]
    have h2 : G[k].length ≤ 2 := this
    omega
  have ha : argB (intsG G) = false := by
    unfold argB
    rw [List.any_eq_false]
    intro r hr
    rw [Bool.not_eq_true, List.any_eq_false]
    intro x hx
    obtain ⟨s, hs, rfl⟩ := List.mem_map.1 hr
    obtain ⟨y, hy, rfl⟩ := List.mem_map.1 hx
    obtain ⟨k, hk, rfl⟩ := List.mem_iff_getElem.1 hs
    have hy' : y ∈ succ G k := by
      unfold succ
      rw [List.getD_eq_getElem?_getD, List.getElem?_eq_getElem hk]
      exact hy
    have := ok.fits k y hy'
    unfold offB
    rw [intsG_len, Bool.or_eq_true, decide_eq_true_iff, decide_eq_true_iff]
    omega
  unfold validE
  rw [hl, ha]
  rfl
/-- The renamed graph, as far as there is one. -/
def renGr (g : List (List Int)) (to : List Int) : Gr := if renE g to = 0 then renG (gN g) to else []
theorem ren_parts {g : List (List Int)} {to : List Int} (h : renE g to = 0) : validE g = 0 ∧ to.length = g.length ∧ to.getD 0 0 = 0 ∧ Once to g.length g.length := by
  unfold renE at h
  by_cases hv : validE g = 0
  · rw [if_pos hv] at h
    cases hp : permB to g.length
    · rw [hp] at h; simp at h
    · obtain ⟨h1, h2, h3⟩ := permB_iff.1 hp
      exact ⟨hv, h1, h2, all_once h1 h3⟩
  · rw [if_neg hv] at h; exact absurd h hv
theorem renL_eq (g : List (List Int)) (to : List Int) : renL g to = intsG (renGr g to) := by
  unfold renL renGr
  split
  · rename_i h
    obtain ⟨hv, hl, _, ho⟩ := ren_parts h
    unfold intsG renG
    rw [List.map_map, gN_len]
    refine List.map_congr_left fun v hv' => ?_
    rw [List.mem_range] at hv'
    unfold renI
    show _ = ints (List.map (tN to) _)
    unfold ints
    rw [List.map_map]
    refine List.map_congr_left fun x hx => ?_
    have hxl := (valid_ok hv).fits _ _ hx
    rw [gN_len] at hxl
    exact (tN_cast ho hxl).1.symm
  · rfl
theorem renGr_ok {g : List (List Int)} {to : List Int} (h : renE g to = 0) : OkG (renGr g to) := by
  obtain ⟨hv, hl, _, ho⟩ := ren_parts h
  unfold renGr
  rw [if_pos h]
  exact renG_ok (valid_ok hv) (by rw [gN_len]; exact ho)
theorem renGr_len (g : List (List Int)) (to : List Int) : (renGr g to).length ≤ 1000 ∧ ∀ k, (succ (renGr g to) k).length ≤ 1000 := by
  by_cases h : renE g to = 0
  · have ok := renGr_ok h
    exact ⟨by have := ok.ten; omega, fun k => by have := ok.deg k; omega⟩
  · unfold renGr
    rw [if_neg h]
    exact ⟨by simp, fun k => by simp [succ]⟩
theorem order_renL {g : List (List Int)} {to : List Int} (h : renE g to = 0) : validE (renL g to) = 0 ∧ orderR (renL g to) = (orderR g).map (tN to) := by
  obtain ⟨hv, hl, h0, ho⟩ := ren_parts h
  have hv' : validE (renL g to) = 0 := by rw [renL_eq]; exact valid_intsG (renGr_ok h)
  refine ⟨hv', ?_⟩
  unfold orderR
  rw [if_pos hv', if_pos hv, renL_eq, gN_intsG]
  unfold renGr
  rw [if_pos h]
  exact order_ren (valid_ok hv) (by rw [gN_len]; exact hl) (by rw [gN_len]; exact ho) h0
theorem renL_short (g : List (List Int)) (to : List Int) : Short (renL g to) := by
  obtain ⟨h1, h2⟩ := renGr_len g to
  rw [renL_eq]
  exact ⟨by rw [intsG_len]; exact h1, fun k => by rw [intsG_at, ints_len]; exact h2 k⟩
theorem order_to {g : List (List Int)} {to : List Int} (h : renE g to = 0) {k : Nat} (hk : k < (orderR g).length) : (orderR g).getD k 0 < to.length ∧ to.getD ((orderR g).getD k 0) 0 = ((((orderR g).map (tN to)).getD k 0 : Nat) : Int) := by
  obtain ⟨hv, hl, _, ho⟩ := ren_parts h
  have hr := (order_node hv hk).1
  have hlt := (rs_iff.1 hr).lt (valid_ok hv).fits (valid_ok hv).pos
  rw [gN_len] at hlt
  refine ⟨by omega, ?_⟩
  have e : ((orderR g).map (tN to)).getD k 0 = tN to ((orderR g).getD k 0) := by
    simp [List.getD_eq_getElem?_getD, List.getElem?_eq_getElem hk]
  rw [e]
  exact (tN_cast ho hlt).1.symm

/-- What the reading of an argument []int tells. -/
theorem open_list {H : Type} {enc : TypeId × Value → H} {w : World} {base fuel : Nat} {held : Bool} {v : Value} {x : DataW H × List MemPlace}
    (h : DataW.trod enc Try.prog w base (fun _ => true) held fuel 32 [v] = some x) :
    ∃ a cap xs, v = .slice a xs.length cap ∧ IntsIn w a xs ∧ xs.length ≤ maxLen := by
  rcases Go.ChangeShapes.open_ints Try.underlying32 Try.underlying3 int_cells h with ⟨hv, _⟩ | ⟨a, len, cap, zs, hv, _, hlc, hcm, hz, _, hc, _⟩
  · simp only [List.cons.injEq, and_true] at hv
    exact ⟨none, 0, [], hv, fun _ hk => absurd hk (Nat.not_lt_zero _), Nat.zero_le _⟩
  · simp only [List.cons.injEq, and_true] at hv
    rw [if_pos rfl] at hz
    refine ⟨some a, cap, zs.take len, by rw [List.length_take, Nat.min_eq_left (by omega)]; exact hv, ints_of (C := cap) hlc hz (fun e => by cases e) fun a' ha c hcc => ?_, by rw [List.length_take]; omega⟩
    obtain rfl : a = a' := by simpa using ha
    exact hc c (by omega)
theorem list_one {w : World} {base : Nat} {v : Value} (h : Value.okWide Try.prog w .any base 32 v) : v.cells.toList = [v] := by
  unfold Value.okWide at h
  rw [Try.underlying32] at h
  cases v with
  | agg cs => simp [Cell.okWide, Cell.ok, Try.underlying32] at h
  | _ => rfl
end Go.Proofs.Ytmljmmnofhhheaa
