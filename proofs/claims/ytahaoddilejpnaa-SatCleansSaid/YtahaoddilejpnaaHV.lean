/- Validate of both sides. -/
import Derived.Test.YtahaoddilejpnaaHC
namespace Go.Proofs.Ytahaoddilejpnaa
open Go.RowKit

/-- The closure of Validate. -/
theorem vBad_any (Bn : Nat) (n l : Int) (w : World) (hn : 0 ≤ n ∧ n ≤ 4000) (hc : w.cell? ⟨Bn, 0, none⟩ = some (.int .i64 n)) : Calls Try.prog 41 #[.int .i64 l, .pointer (some ⟨Bn, 0, none⟩)] w fun e w' => e = .returned (.bool (!litB n l)) ∧ Below w.heap.size w w' := by
  have HL := Lib.hid (sLit_any n l w hn)
  generalize litB n l = b at *
  clear hn
  go_enter Try.func41, Try.ntmps41
  go_wp2_with fail
  refine HL.out.mono ?_; rintro e w2 ⟨rfl, rfl⟩
  go_wp2_with fail
  go_ret
  exact ⟨rfl, Below.refl _ _⟩
def badK (n : Int) (k : List Int) : Bool := k.any fun l => !litB n l
theorem validE_range {n : Int} {g : List (List Int)} (h : n < 0 ∨ 4000 < n) : validE n g = 3 := by
  unfold validE; rw [if_pos]; omega
theorem validE_in {n : Int} {g : List (List Int)} (h : 0 ≤ n ∧ n ≤ 4000) (hg : g.length ≤ 1000) : validE n g = if g.any (badK n) then 1 else 0 := by
  unfold validE badK; rw [if_neg]; omega
set_option maxHeartbeats 1000000 in
set_option maxRecDepth 100000 in
theorem sValidate_any (n : Int) (g : List (List Int)) (a : Option Addr) (cap : Nat) (w : World) (hin : RowsIn w a g) (hs : Short g) :
    Calls Try.prog 18 #[.int .i64 n, .slice a g.length cap] w fun e w' => e = .returned (.int .i64 (validE n g)) ∧ Below w.heap.size w w' := by
  have HI := Lib.hid hin; have HR := Lib.hid hs.row; have hl := hs.len
  clear hin hs
  have hb0 : Below w.heap.size w (w.alloc (.cells #[.int .i64 n] 3)) := (Below.refl _ _).alloc (Nat.le_refl _) _
  have hs0 := hb0.size
  have HB0 := Lib.hid hb0; clear hb0
  by_cases h1 : n < 0
  · have HE := Lib.hid (validE_range (g := g) (.inl h1))
    clear HI HR
    generalize g.length = m at *
    go_enter Try.func18, Try.ntmps18
    go_wp2_with fail
    go_ret
    exact ⟨ret_int HE.out.symm, HB0.out⟩
  by_cases h2 : 4000 < n
  · have HE := Lib.hid (validE_range (g := g) (.inr h2))
    clear HI HR
    generalize g.length = m at *
    go_enter Try.func18, Try.ntmps18
    go_wp2_with fail
    go_ret
    exact ⟨ret_int HE.out.symm, HB0.out⟩
  have HE := Lib.hid (validE_in (n := n) (g := g) ⟨by omega, by omega⟩ hl)
  have hN : Hid (0 ≤ n ∧ n ≤ 4000) := Lib.hid ⟨by omega, by omega⟩
  go_enter Try.func18, Try.ntmps18
  go_wp2_with fail
  have hcn : (w.alloc (.cells #[.int .i64 n] 3)).cell? ⟨w.heap.size, 0, none⟩ = some (.int .i64 n) := by simp [go_sem]
  have HCN := Lib.hid hcn; clear hcn
  go_loopw [20] (fun i wr => ∃ k : Nat, k ≤ g.length ∧ i = .int .i64 k ∧ Below (w.heap.size + 1) (w.alloc (.cells #[.int .i64 n] 3)) wr ∧ ∀ j, j < k → badK n (g.getD j []) = false) (fun i _ => g.length - (intOf i).toNat)
  case atStart => exact ⟨0, Nat.zero_le _, rfl, Below.refl _ _, fun j hj => absurd hj (Nat.not_lt_zero _)⟩
  case round =>
    obtain ⟨k, hk, rfl, hb, hny⟩ := hrel
    have HN := Lib.hid hny; have HB := Lib.hid hb
    have hcn := keep HCN.out (hb.mono (by simp))
    have HCN2 := Lib.hid hcn
    clear hny hb hcn
    by_cases hlt : k < g.length
    · obtain ⟨b, off, a', cap', rfl, hc, _, _, hi⟩ := (HI.out.below HB0.out).below (HB.out.mono (by simp)) k hlt
      have hr := HR.out k hlt
      have HC := Lib.hid (conI_any 41 #[.pointer (some ⟨w.heap.size, 0, none⟩)] (fun _ _ => rfl) (fun l => !litB n l) (g.getD k []) a' cap' wr hi (by omega) fun j W hj hbW => vBad_any w.heap.size n _ W hN.out (keep HCN2.out hbW))
      clear hi
      have eb : ((g.getD k []).any fun l => !litB n l) = badK n (g.getD k []) := rfl
      rw [eb] at HC
      clear eb
      generalize hx : badK n (g.getD k []) = x at *
      have HX := Lib.hid hx; clear hx
      generalize (g.getD k []).length = m at *
      go_wp2_with fail
      refine HC.out.mono ?_; rintro e w2 ⟨rfl, hb2⟩
      have HB2 := Lib.hid (HB.out.trans (hb2.mono (by simpa using HB.out.size)))
      clear hb2
      cases x
      · go_wp2_with fail
        go_roundw
        case rel => exact ⟨k + 1, by omega, by go_num, HB2.out, fun j hj => by
          by_cases e : j = k
          · rw [e]; exact HX.out
          · exact HN.out j (by omega)⟩
        case measure => simp [intOf]; omega
      · have HT := Lib.hid (any_at [] hlt HX.out)
        go_wp2_with fail
        go_ret
        exact ⟨ret_int (by rw [HE.out, HT.out]; rfl), HB0.out.trans (HB2.out.mono (by simp))⟩
    · have HT := Lib.hid (any_none [] hlt HN.out)
      have hk2 : k = g.length := by omega
      go_wp2_with fail
      go_ret
      exact ⟨ret_int (by rw [HE.out, HT.out]; rfl), HB0.out.trans (HB.out.mono (by simp))⟩
set_option maxHeartbeats 1000000 in
theorem rValidate_any (n : Int) (g : List (List Int)) (a : Option Addr) (cap : Nat) (w : World) (hin : RowsIn w a g) (hs : Short g) :
    Calls Try.prog 13 #[.int .i64 n, .slice a g.length cap] w fun e w' => e = .returned (.int .i64 (validE n g)) ∧ w = w' := by
  have HI := Lib.hid hin; have HR := Lib.hid hs.row; have hl := hs.len
  clear hin hs
  by_cases h1 : n < 0
  · have HE := Lib.hid (validE_range (g := g) (.inl h1))
    clear HI HR
    generalize g.length = m at *
    go_enter Try.func13, Try.ntmps13
    go_wp2_with fail
    go_ret
    exact ⟨ret_int HE.out.symm, rfl⟩
  by_cases h2 : 4000 < n
  · have HE := Lib.hid (validE_range (g := g) (.inr h2))
    clear HI HR
    generalize g.length = m at *
    go_enter Try.func13, Try.ntmps13
    go_wp2_with fail
    go_ret
    exact ⟨ret_int HE.out.symm, rfl⟩
  have HE := Lib.hid (validE_in (n := n) (g := g) ⟨by omega, by omega⟩ hl)
  have hN : Hid (0 ≤ n ∧ n ≤ 4000) := Lib.hid ⟨by omega, by omega⟩
  go_enter Try.func13, Try.ntmps13
  go_wp2_with fail
  go_loopw [5] (fun i wr => ∃ k : Nat, k ≤ g.length ∧ i = .int .i64 k ∧ w = wr ∧ ∀ j, j < k → badK n (g.getD j []) = false) (fun i _ => g.length - (intOf i).toNat)
  case atStart => exact ⟨0, Nat.zero_le _, rfl, rfl, fun j hj => absurd hj (Nat.not_lt_zero _)⟩
  case round =>
    obtain ⟨k, hk, rfl, rfl, hny⟩ := hrel
    have HN := Lib.hid hny; clear hny
    by_cases hlt : k < g.length
    · obtain ⟨b, off, a', cap', rfl, hc, _, _, hi⟩ := HI.out k hlt
      have hr := HR.out k hlt
      have HIn := Lib.hid hi; clear hi
      have HX : Hid (badK n (g.getD k []) = (g.getD k []).any fun l => !litB n l) := Lib.hid rfl
      generalize hx : g.getD k [] = x at *
      have HGX := Lib.hid hx; clear hx
      go_wp2_with fail
      go_loopw [6] (fun i wr => ∃ j : Nat, j ≤ x.length ∧ i = .int .i64 j ∧ w = wr ∧ ∀ i, i < j → (!litB n (x.getD i 0)) = false) (fun i _ => x.length - (intOf i).toNat)
      case atStart => exact ⟨0, Nat.zero_le _, rfl, rfl, fun j hj => absurd hj (Nat.not_lt_zero _)⟩
      case round =>
        obtain ⟨j, hj, rfl, rfl, hny⟩ := hrel
        have HN2 := Lib.hid hny; clear hny
        by_cases hjl : j < x.length
        · obtain ⟨b2, off2, rfl, hc2⟩ := HIn.out j hjl
          have HL := Lib.hid (rLit_any n (x.getD j 0) w hN.out)
          generalize hy : litB n (x.getD j 0) = y at *
          have HY := Lib.hid hy; clear hy
          generalize hlx : x.getD j 0 = l at *
          have HLX := Lib.hid hlx; clear hlx
          go_wp2_with fail
          refine HL.out.mono ?_; rintro e w2 ⟨rfl, rfl⟩
          cases y
          · have HT := Lib.hid (any_at (p := fun l => !litB n l) 0 hjl (by rw [HLX.out, HY.out]; rfl))
            have HT2 := Lib.hid (any_at [] hlt (p := badK n) (by rw [HGX.out, HX.out]; exact HT.out))
            go_wp2_with fail
            go_ret
            exact ⟨ret_int (by rw [HE.out, HT2.out]; rfl), rfl⟩
          · go_wp2_with fail
            go_roundw
            case rel => exact ⟨j + 1, by omega, by go_num, by trivial, fun i hi => by
              by_cases e : i = j
              · rw [e, HLX.out, HY.out]; rfl
              · exact HN2.out i (by omega)⟩
            case measure => simp [intOf]; omega
        · have HT := Lib.hid (any_none (p := fun l => !litB n l) 0 hjl HN2.out)
          have hjx : j = x.length := by omega
          go_wp2_with fail
          go_roundw
          case rel => exact ⟨k + 1, by omega, by go_num, by trivial, fun i hi => by
            by_cases e : i = k
            · rw [e, HGX.out, HX.out]; exact HT.out
            · exact HN.out i (by omega)⟩
          case measure => simp [intOf]; omega
    · have HT := Lib.hid (any_none [] hlt HN.out)
      have hk2 : k = g.length := by omega
      go_wp2_with fail
      go_ret
      exact ⟨ret_int (by rw [HE.out, HT.out]; rfl), rfl⟩
end Go.Proofs.Ytahaoddilejpnaa
