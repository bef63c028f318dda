/- Walks of edges at its three closures. -/
import Derived.Test.YtmljmmnofhhheaaWC
namespace Go.Proofs.Ytmljmmnofhhheaa
open Go.RowKit

abbrev Pairs := List (Nat × Nat)
/-- A slice of these pairs. -/
def PairSl (w : World) (v : Value) (ps : Pairs) : Prop := ∃ a cap, v = .slice a ps.length cap ∧
  ∀ k, k < ps.length → ∃ b off, a = some ⟨b, off, none⟩ ∧ w.cell? ⟨b, off + k * 2, none⟩ = some (.int .i64 ((ps.getD k (0, 0)).1 : Nat)) ∧ w.cell? ⟨b, off + k * 2 + 1, none⟩ = some (.int .i64 ((ps.getD k (0, 0)).2 : Nat))
theorem PairSl.below {w w' : World} {v : Value} {ps : Pairs} (h : PairSl w v ps) (hb : Below w.heap.size w w') : PairSl w' v ps := by
  obtain ⟨a, cap, rfl, hn⟩ := h
  refine ⟨a, cap, rfl, fun k hk => ?_⟩
  obtain ⟨b, off, rfl, h1, h2⟩ := hn k hk
  exact ⟨b, off, rfl, keep h1 hb, keep h2 hb⟩
theorem PairSl.nil (w : World) : PairSl w (.slice none 0 0) [] := ⟨none, 0, rfl, fun _ hk => absurd hk (Nat.not_lt_zero _)⟩
def encP (ps : Pairs) : List Value := ps.flatMap fun p => [.int .i64 (p.1 : Nat), .int .i64 (p.2 : Nat)]
theorem encP_snoc (ps : Pairs) (p : Nat × Nat) : encP (ps ++ [p]) = encP ps ++ [.int .i64 (p.1 : Nat), .int .i64 (p.2 : Nat)] := by simp [encP]
theorem encP_get : ∀ (ps : Pairs) (k : Nat), k < ps.length → (encP ps)[k * 2]? = some (.int .i64 ((ps.getD k (0, 0)).1 : Nat)) ∧ (encP ps)[k * 2 + 1]? = some (.int .i64 ((ps.getD k (0, 0)).2 : Nat))
  | p :: ps, 0, _ => by simp [encP]
  | p :: ps, k + 1, h => by
    have := encP_get ps k (by simpa using h)
    have e : encP (p :: ps) = .int .i64 (p.1 : Nat) :: .int .i64 (p.2 : Nat) :: encP ps := by simp [encP]
    rw [e, show (k + 1) * 2 = k * 2 + 1 + 1 by omega, show k * 2 + 1 + 1 + 1 = (k * 2 + 1) + 1 + 1 by omega]
    simpa using this
theorem pairSl_of_owns {w : World} {base : Nat} {e : TypeId} {v : Value} {ps : Pairs} (h : w.ownsRow base e 2 v ps.length (encP ps)) : PairSl w v ps := by
  obtain ⟨_, h | ⟨g, cap, cur, rfl, hb, hg, hnc, hm, hcs, ht⟩⟩ := h
  · obtain ⟨rfl, h0⟩ := h
    have : ps = [] := List.length_eq_zero_iff.1 h0
    subst this
    exact PairSl.nil w
  · refine ⟨_, cap, rfl, fun k hk => ⟨g, 0, rfl, ?_, ?_⟩⟩
    · rw [Nat.zero_add, cell_of_row w g _ _ _ _ hg]
      have := (encP_get ps k hk).1
      rw [← ht, List.getElem?_take, if_pos (by omega)] at this
      simpa using this
    · rw [Nat.zero_add, cell_of_row w g _ _ _ _ hg]
      have := (encP_get ps k hk).2
      rw [← ht, List.getElem?_take, if_pos (by omega)] at this
      simpa using this
theorem Try.infoPair : (Try.prog.info? 50).map (fun i => (i.zero, i.size, i.bytes)) = some (some (.agg #[.int .i64 0, .int .i64 0]), 2, 16) := by kernel_rfl
theorem two_one {a b : Int} : ∀ u ∈ [Value.int .i64 a, Value.int .i64 b], u.oneCell' = true := by simp [Value.oneCell']
theorem pair_new (w : World) (a b : Int) (T : TypeId) : ∀ j u, [Value.int .i64 a, Value.int .i64 b][j]? = some u → (w.alloc (.cells #[.int .i64 a, .int .i64 b] T)).cell? ((⟨w.heap.size, 0, none⟩ : Addr).add j) = some u := by
  intro j u hu
  have hadd : (⟨w.heap.size, 0, none⟩ : Addr).add j = ⟨w.heap.size, j, none⟩ := by unfold Addr.add; split <;> simp_all
  rw [hadd, World.cell?_alloc_at _ _ _ _ rfl]
  match j, hu with
  | 0, hu => simpa using hu
  | 1, hu => simpa using hu

/-- The edges of one node to the nodes below k. -/
def rowE (g : Gr) (good : Nat → Nat → Bool) (a k : Nat) : Pairs := (setUpto (fun b => goesI g a b && good a b) k).map fun b => (a, b)
theorem rowE_yes {g : Gr} {good : Nat → Nat → Bool} {a k : Nat} (h1 : goesI g a k = true) (h2 : good a k = true) : rowE g good a (k + 1) = rowE g good a k ++ [(a, k)] := by
  unfold rowE; rw [setUpto_yes (by rw [h1, h2]; rfl)]; simp
theorem rowE_no {g : Gr} {good : Nat → Nat → Bool} {a k : Nat} (h : (goesI g a k && good a k) = false) : rowE g good a (k + 1) = rowE g good a k := by
  unfold rowE; rw [setUpto_no h]
theorem rowE_len (g : Gr) (good : Nat → Nat → Bool) (a k : Nat) : (rowE g good a k).length ≤ k := by
  unfold rowE; rw [List.length_map]; exact setUpto_len _ _
/-- The edges of the first i of some nodes. -/
def edgesUpto (g : Gr) (good : Nat → Nat → Bool) (l : List Nat) (i : Nat) : Pairs := (l.take i).flatMap fun a => rowE g good a g.length
theorem edgesUpto_next {g : Gr} {good : Nat → Nat → Bool} {l : List Nat} {i : Nat} (h : i < l.length) : edgesUpto g good l (i + 1) = edgesUpto g good l i ++ rowE g good (l.getD i 0) g.length := by
  unfold edgesUpto
  rw [List.take_succ_eq_append_getElem h, List.flatMap_append]
  simp [List.getD_eq_getElem?_getD, List.getElem?_eq_getElem h]
theorem edgesUpto_len (g : Gr) (good : Nat → Nat → Bool) (l : List Nat) : ∀ i, (edgesUpto g good l i).length ≤ i * g.length
  | 0 => by simp [edgesUpto]
  | i + 1 => by
    by_cases h : i < l.length
    · rw [edgesUpto_next h, List.length_append, Nat.succ_mul]
      have := edgesUpto_len g good l i
      have := rowE_len g good (l.getD i 0) g.length
      omega
    · have e : edgesUpto g good l (i + 1) = edgesUpto g good l i := by
        unfold edgesUpto; rw [List.take_of_length_le (by omega), List.take_of_length_le (by omega)]
      rw [e, Nat.succ_mul]
      have := edgesUpto_len g good l i
      omega
/-- The edges of the reached nodes that are as they should be. -/
noncomputable def edgesL (g : Gr) (good : Nat → Nat → Bool) : Pairs := edgesUpto g good (setL (rs g (-1) 0)) (setL (rs g (-1) 0)).length
theorem setL_mem {S : NSet} {j : Nat} : j ∈ setL S ↔ j < 10 ∧ S j = true := by simp [setL, setUpto]

set_option maxRecDepth 100000 in
set_option maxHeartbeats 4000000 in
theorem edges_backs (pg : Nat) (a : Option Addr) (cap : Nat) (g : Gr) (good : Nat → Nat → Bool) (w : World) (hg : GraphIn w a g) (ok : OkG g)
    (hgood : ∀ x y w', x < g.length → y < g.length → Below w.heap.size w w' → Calls Try.prog 77 #[.int .i64 (x : Nat), .int .i64 (y : Nat), .pointer (some ⟨pg, 0, none⟩)] w' fun e w'' => e = .returned (.bool (good x y)) ∧ Below w'.heap.size w' w'') :
    Calls Try.prog 41 #[.slice a g.length cap, .func (.func 77) #[] #[.pointer (some ⟨pg, 0, none⟩)]] w fun e w' => ∃ v, e = .returned v ∧ PairSl w' v (edgesL g good) ∧ Below w.heap.size w w' := by
  have h10 := ok.ten
  have HR := Lib.hid (reach_any a cap g (-1) w hg ok)
  have HG := Lib.hid hg
  have HGd := Lib.hid hgood
  have hLlt : ∀ k, k < (setL (rs g (-1) 0)).length → (setL (rs g (-1) 0)).getD k 0 < g.length := fun k hk => by
    have := (setL_mem.1 (getD_mem_any 0 hk)).2
    exact (rs_iff.1 this).lt ok.fits ok.pos
  have hLlen : (setL (rs g (-1) 0)).length ≤ 10 := setUpto_len _ 10
  have HLt := Lib.hid hLlt
  unfold edgesL
  clear hg hgood hLlt
  obtain ⟨i0, hi, hz0, hz1, hz2⟩ := info_parts Try.infoPair
  go_enter Try.func41, Try.ntmps41
  go_wp2_with fail
  refine HR.out.mono ?_; rintro e w1 ⟨rfl, hb1⟩
  go_wp2_with fail
  refine (list_any _ _).mono ?_; rintro e w2 ⟨v, rfl, ⟨la, lcap, rfl, hl⟩, hb2⟩
  have HB := Lib.hid (hb1.trans (hb2.mono hb1.size))
  have HL := Lib.hid hl
  clear hb1 hb2 hl
  generalize hLL : setL (rs g (-1) 0) = L at *
  have HLL := Lib.hid hLL; clear hLL
  go_wp2_with fail
  go_loopw [5, 13] (fun tv i wr => ∃ k : Nat, k ≤ L.length ∧ i = .int .i64 k ∧ wr.ownsRow w2.heap.size 50 2 tv (edgesUpto g good L k).length (encP (edgesUpto g good L k)) ∧ Below w2.heap.size w2 wr) (fun _ i _ => L.length - (intOf i).toNat)
  case atStart => exact ⟨0, Nat.zero_le _, rfl, World.ownsRow_nil _ _ _ _, Below.refl _ _⟩
  case round =>
    obtain ⟨k, hk, rfl, hown, hbl⟩ := hrel
    by_cases hlt : k < L.length
    · obtain ⟨b, off, rfl, hx⟩ := HL.out.below hbl k hlt
      have hxl := HLt.out k hlt
      have hel := edgesUpto_len g good L k
      have helk : (edgesUpto g good L k).length ≤ 100 := Nat.le_trans hel (by
        have : k * g.length ≤ 10 * 10 := Nat.mul_le_mul (by omega) h10
        omega)
      have HNx := Lib.hid (edgesUpto_next (g := g) (good := good) hlt)
      have HO := Lib.hid hown; have HBl := Lib.hid hbl
      clear hown hbl hel
      generalize hxx : L.getD k 0 = x at *
      have HX := Lib.hid hxx; clear hxx
      generalize edgesUpto g good L k = E at *
      obtain ⟨gb, goff, a', cap', rfl, hcell0, hrow0⟩ := HG.out x hxl
      have HC0 := Lib.hid hcell0; have HR0 := Lib.hid hrow0
      clear hcell0 hrow0
      go_wp2_with fail
      go_loopw [5, 19] (fun tv i wr => ∃ m : Nat, m ≤ g.length ∧ i = .int .i64 m ∧ wr.ownsRow w2.heap.size 50 2 tv (E ++ rowE g good x m).length (encP (E ++ rowE g good x m)) ∧ Below w2.heap.size w2 wr) (fun _ i _ => g.length - (intOf i).toNat)
      case atStart => exact ⟨0, Nat.zero_le _, rfl, by simpa [rowE, setUpto] using HO.out, HBl.out⟩
      case round =>
        obtain ⟨m, hm, rfl, hown, hbl⟩ := hrel
        by_cases hml : m < g.length
        · have hbw := HB.out.trans (hbl.mono HB.out.size)
          have hcell := keep HC0.out hbw
          have hCon := Lib.hid (containsN_any g x a' cap' m wr (HR0.out.below hbw) ok)
          have hGood := Lib.hid (HGd.out x m wr hxl hml hbw)
          have hrl := rowE_len g good x m
          have HBl2 := Lib.hid hbl
          clear hbw hbl
          cases hgo : goesI g x m
          · rw [hgo] at hCon
            have HNo := Lib.hid (rowE_no (good := good) (by rw [hgo]; rfl)); clear hgo
            have HO2 := Lib.hid hown; clear hown
            go_wp2_with (first | (go_at_call 71; refine hCon.out.mono ?_; rintro e w3 ⟨rfl, rfl⟩))
            go_roundw
            case rel => exact ⟨m + 1, by omega, by go_num, by rw [HNo.out]; exact HO2.out, HBl2.out⟩
            case measure => simp [intOf]; omega
          · rw [hgo] at hCon
            cases hgd : good x m
            · rw [hgd] at hGood
              have HNo := Lib.hid (rowE_no (good := good) (by rw [hgo, hgd]; rfl)); clear hgo hgd
              have HO2 := Lib.hid hown; clear hown
              go_wp2_with (first | (go_at_call 71; refine hCon.out.mono ?_; rintro e w3 ⟨rfl, rfl⟩) | (go_at_call 77; refine hGood.out.mono ?_; rintro e w3 ⟨rfl, hb3⟩))
              have HO3 := Lib.hid (HO2.out.kept (row := none) ⟨hb3.os, hb3.tape, hb3.output, hb3.size, fun k hk _ => hb3.block k hk⟩ (by cases hv : Value.ownBlock _ <;> simp))
              go_roundw
              case rel => exact ⟨m + 1, by omega, by go_num, by rw [HNo.out]; exact HO3.out, HBl2.out.trans (hb3.mono HBl2.out.size)⟩
              case measure => simp [intOf]; omega
            · rw [hgd] at hGood
              have HYes := Lib.hid (rowE_yes (good := good) hgo hgd); clear hgo hgd
              have HO2 := Lib.hid hown; clear hown
              go_wp2_with (first | (go_at_call 71; refine hCon.out.mono ?_; rintro e w3 ⟨rfl, rfl⟩))
              refine hGood.out.mono ?_; rintro e w3 ⟨rfl, hb3⟩
              have HO3 := Lib.hid (HO2.out.kept (row := none) ⟨hb3.os, hb3.tape, hb3.output, hb3.size, fun k hk _ => hb3.block k hk⟩ (by cases hv : Value.ownBlock _ <;> simp))
              have HB3 := Lib.hid (HBl2.out.trans (hb3.mono HBl2.out.size))
              clear hb3
              have hEl : (E ++ rowE g good x m).length ≤ 110 := by rw [List.length_append]; omega
              go_wp2_with (at_builtin; refine wpList_append_own _ rfl _ _ 28 rfl w2.heap.size 50 i0 (.agg #[.int .i64 0, .int .i64 0]) 2 16 Try.underlying28 hi hz0 hz1 hz2 rfl (by decide) _ _ _ rfl (HO3.out.alloc _) ⟨w3.heap.size, 0, none⟩ 1 1 [.int .i64 x, .int .i64 m] rfl rfl (pair_new _ _ _ _) two_one (by unfold maxLen; omega) (by omega) (by have := HB3.out.size; simp; omega) ?_; intro v' w4 hown' hgrow _)
              have hb1 := (HB3.out.alloc HB3.out.size _).grown hgrow (by have := HB3.out.size; simp; omega) (fun k hk => (HO3.out.lt k hk).1)
              have HO4 := Lib.hid hown'
              have HB4 := Lib.hid hb1
              clear hown' hgrow hb1
              go_wp2_with fail
              go_roundw
              case rel => exact ⟨m + 1, by omega, by go_num, by rw [HYes.out, ← List.append_assoc, encP_snoc, List.length_append]; exact HO4.out, HB4.out⟩
              case measure => simp [intOf]; omega
        · obtain rfl : m = g.length := by omega
          have HO2 := Lib.hid hown; have HBl2 := Lib.hid hbl
          clear hown hbl
          go_wp2_with fail
          go_roundw
          case rel => exact ⟨k + 1, by omega, by go_num, by rw [HNx.out]; exact HO2.out, HBl2.out⟩
          case measure => simp [intOf]; omega
    · obtain rfl : k = L.length := by omega
      have HO := Lib.hid hown; have HBl := Lib.hid hbl
      clear hown hbl
      go_wp2_with fail
      go_ret
      exact ⟨_, rfl, by rw [HLL.out]; exact pairSl_of_owns HO.out, HB.out.trans (HBl.out.mono HB.out.size)⟩

end Go.Proofs.Ytmljmmnofhhheaa
