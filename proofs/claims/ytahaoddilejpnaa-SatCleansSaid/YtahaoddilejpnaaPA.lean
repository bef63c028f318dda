/- slices.Grow and Concat of numbers. -/
import Derived.Test.YtahaoddilejpnaaHF
import Derived.Shelf.Spec.SlicesGrow
import Derived.Laws.AppendOwnNone
namespace Go.Proofs
open Go.Shelf
shelf_lay_g Lays8.n4 Nm8 4 at Try 74 as Try.growI
end Go.Proofs
namespace Go.Proofs.Ytahaoddilejpnaa
open Go.RowKit Go.Shelf

theorem grow_any (n : Nat) (hn : n ≤ 1000000) (w : World) : Calls Try.prog 74 #[.slice none 0 0, .int .i64 n] w fun e w' => (∃ v, e = .returned v ∧ w'.ownsRow w.heap.size 3 1 v 0 []) ∧ Below w.heap.size w w' := by
  by_cases h0 : n = 0
  · subst h0
    have := Any8.slices_Grow_room Try.growI none 0 0 0 w (by omega) (by omega) (by omega) (by omega)
    change Calls Try.prog 74 _ _ _ at this
    exact this.mono fun e w' ⟨h1, h2⟩ => by subst h2; exact ⟨⟨_, h1, owns_nil _ _ _ _⟩, Below.refl _ _⟩
  · obtain ⟨i0, hi, ip0, ip1, ip2⟩ := info_parts Try.infoInt
    have := Any8.slices_Grow_grow Try.growI i0 (.int .i64 0) hi ip0 (by rw [ip1]; decide) none 0 0 n [] w (by omega) (by omega) (by rw [ip2]; omega) (by omega) (by simp) (fun _ => rfl) (fun a e => by cases e)
    change Calls Try.prog 74 _ _ _ at this
    refine this.mono fun e w' ⟨h1, h2⟩ => ?_
    subst h2
    rw [Nat.zero_add] at h1 ⊢
    have hge := grownCap_ge w n 0 3
    have hle := grownCap_le_maxLen w n 0 3 (by unfold maxLen; omega)
    refine ⟨⟨_, h1, by simp, .inr ⟨w.heap.size, _, _, rfl, Nat.le_refl _, heap_at _ _ _ rfl, Nat.zero_le _, hle, ?_, by simp⟩⟩, (below_drew1 (Below.refl _ _)).alloc (Nat.le_refl _) _⟩
    change _ = grownCap w n 0 3 * 1
    show (([] : List Value).toArray ++ Builtin.zeroCells #[Value.int .i64 0] (n - 0) ++ Builtin.zeroCells #[Value.int .i64 0] (grownCap w n 0 3 - n)).size = _
    rw [Array.size_append, Array.size_append, size_zeroCells, size_zeroCells]
    simp
    omega
def flatLen (g : List (List Int)) : Nat := g.flatten.length
theorem flat_succ (g : List (List Int)) (k : Nat) (hk : k < g.length) : (g.take (k + 1)).flatten = (g.take k).flatten ++ g.getD k [] := by
  rw [List.take_add_one, List.flatten_append, List.getElem?_eq_getElem hk, List.getD_eq_getElem?_getD, List.getElem?_eq_getElem hk]
  simp
theorem flat_le (g : List (List Int)) (hs : Short g) : ∀ k, k ≤ g.length → (g.take k).flatten.length ≤ k * 1000
  | 0, _ => by simp
  | k + 1, h => by
    rw [flat_succ g k (by omega), List.length_append]
    have := flat_le g hs k (by omega)
    have := hs.row k (by omega)
    omega
/-- The cells of a row, as a list of values. -/
theorem ints_vals {w : World} {b off : Nat} {xs : List Int} (h : IntsIn w (some ⟨b, off, none⟩) xs) : ∀ j u, (encI xs)[j]? = some u → w.cell? ((⟨b, off, none⟩ : Addr).add j) = some u := fun j u hj => by
  have hj2 : j < xs.length := by have := (List.getElem?_eq_some_iff.1 hj).1; rwa [encI_len] at this
  obtain ⟨b', off', e, hc⟩ := h j hj2
  cases e
  rw [encI_get hj2] at hj
  cases hj
  have e2 : (⟨b, off, none⟩ : Addr).add j = ⟨b, off + j, none⟩ := by
    unfold Addr.add
    split
    · rename_i h0; subst h0; rfl
    · rfl
  rw [e2]; exact hc
set_option maxRecDepth 100000 in
set_option maxHeartbeats 4000000 in
theorem concat_any (g : List (List Int)) (a : Option Addr) (cap : Nat) (w : World) (hin : RowsIn w a g) (hs : Short g) :
    Calls Try.prog 49 #[.slice a g.length cap] w fun e w' => (∃ v, e = .returned v ∧ w'.ownsRow w.heap.size 3 1 v g.flatten.length (encI g.flatten)) ∧ Below w.heap.size w w' := by
  have HI := Lib.hid hin; have HR := Lib.hid hs.row; have hl := hs.len; have HFl := Lib.hid (flat_le g hs)
  have HG : Hid (∀ (n : Nat) W, n ≤ 1000000 → Calls Try.prog 74 #[.slice none 0 0, .int .i64 n] W fun e w' => (∃ v, e = .returned v ∧ w'.ownsRow W.heap.size 3 1 v 0 []) ∧ Below W.heap.size W w') := Lib.hid fun n W h => grow_any n h W
  have HRes : Hid ((g.take g.length).flatten = g.flatten) := Lib.hid (by rw [List.take_length])
  obtain ⟨i0, hi, ip0, ip1, ip2⟩ := info_parts Try.infoInt
  clear hin hs
  go_enter Try.func49, Try.ntmps49
  go_wp2_with fail
  go_loopw [3, 11] (fun s i wr => ∃ k : Nat, k ≤ g.length ∧ i = .int .i64 k ∧ w = wr ∧ s = .int .i64 ((g.take k).flatten.length : Nat)) (fun _ i _ => g.length - (intOf i).toNat)
  case atStart => exact ⟨0, Nat.zero_le _, rfl, rfl, by simp⟩
  case round =>
    obtain ⟨k, hk, rfl, rfl, rfl⟩ := hrel
    have hfl := HFl.out k hk
    by_cases hlt : k < g.length
    · obtain ⟨b, off, a', cap', rfl, hc, _, _, _⟩ := HI.out k hlt
      have hr := HR.out k hlt
      have HS : Hid ((g.take (k + 1)).flatten.length = (g.take k).flatten.length + (g.getD k []).length) := Lib.hid (by rw [flat_succ g k hlt, List.length_append])
      generalize hf1 : (g.take (k + 1)).flatten.length = f1 at *
      have HF1 := Lib.hid hf1; clear hf1
      generalize (g.take k).flatten.length = f at *
      generalize (g.getD k []).length = m at *
      have hf2 : f ≤ 1000000 := by omega
      clear hfl
      go_wp2_with fail
      go_roundw
      case rel => exact ⟨k + 1, by omega, by go_num, by trivial, by rw [HF1.out, HS.out]; go_num⟩
      case measure => simp [intOf]; omega
    · have hkg : k = g.length := by omega
      have hf2 : (g.take k).flatten.length ≤ 1000000 := by omega
      have HGr := Lib.hid (HG.out _ w hf2)
      generalize (g.take k).flatten.length = f at *
      clear hfl
      go_wp2_with fail
      refine HGr.out.mono ?_; rintro e w2 ⟨⟨v2, rfl, hown2⟩, hb2⟩
      have HO2 := Lib.hid hown2; have HB2 := Lib.hid hb2
      clear hown2 hb2
      go_wp2_with fail
      go_loopw [6, 27] (fun v i wr => ∃ k : Nat, k ≤ g.length ∧ i = .int .i64 k ∧ wr.ownsRow w.heap.size 3 1 v (g.take k).flatten.length (encI (g.take k).flatten) ∧ Below w.heap.size w wr) (fun _ i _ => g.length - (intOf i).toNat)
      case atStart => exact ⟨0, Nat.zero_le _, rfl, HO2.out, HB2.out⟩
      case round =>
        obtain ⟨k, hk, rfl, hown, hb⟩ := hrel
        obtain ⟨va, vc, rfl⟩ := owns_shape hown
        have hfl := HFl.out k hk
        have hf2 : (g.take k).flatten.length ≤ 1000000 := by omega
        have HO := Lib.hid hown; have HB := Lib.hid hb
        clear hown
        by_cases hlt : k < g.length
        · obtain ⟨b, off, a', cap', rfl, hc, _, h0n, hix⟩ := HI.out.below hb k hlt
          have hr := HR.out k hlt
          have HS := Lib.hid (flat_succ g k hlt)
          have HIx := Lib.hid hix
          clear hix hb hfl
          generalize hf1 : (g.take (k + 1)).flatten = f1 at *
          have HF1 := Lib.hid hf1; clear hf1
          generalize (g.take k).flatten = f at *
          generalize g.getD k [] = x at *
          have hf3 : f.length ≤ 1000000 := hf2
          cases a' with
          | none =>
            obtain rfl := h0n rfl
            have hx0 : x = [] := by
              cases x with
              | nil => rfl
              | cons y ys =>
                obtain ⟨b', off', e, _⟩ := HIx.out 0 (by simp)
                cases e
            subst hx0
            have HS2 : Hid (f1 = f) := Lib.hid (by rw [HS.out, List.append_nil])
            clear HS
            go_wp2_with (first | (at_builtin; refine wpList_append_own_none rfl _ _ 40 rfl w.heap.size 3 i0 1 Try.underlying40 hi _ _ _ rfl HO.out rfl ?_))
            go_roundw
            case rel => exact ⟨k + 1, by omega, by go_num, by rw [HF1.out, HS2.out]; exact HO.out, HB.out⟩
            case measure => simp [intOf]; omega
          | some ad =>
            have HN : Hid (∀ j u, (encI x)[j]? = some u → wr.cell? (ad.add j) = some u) := Lib.hid (fun j u hj => by
              have hj2 : j < x.length := by have := (List.getElem?_eq_some_iff.1 hj).1; rwa [encI_len] at this
              obtain ⟨b', off', e, _⟩ := HIx.out j hj2
              cases e
              exact ints_vals HIx.out j u hj)
            have HLx : Hid ((encI x).length = x.length * 1) := Lib.hid (by rw [encI_len, Nat.mul_one])
            have HS63 : Hid (f.length + x.length ≤ maxLen) := Lib.hid (by unfold maxLen; omega)
            have HSb : Hid ((f.length + x.length) * 8 ≤ 140737488355328) := Lib.hid (by omega)
            have HZ6 := Lib.hid HB.out.size
            go_wp2_with (first | (at_builtin; refine wpList_append_own_at _ rfl _ _ 40 rfl w.heap.size 3 i0 (.int .i64 0) 1 8 Try.underlying40 hi ip0 ip1 ip2 rfl (by decide) _ _ _ rfl HO.out ad x.length cap' (encI x) rfl HLx.out HN.out (encI_one _) HS63.out HSb.out HZ6.out ?_; intro v9 w9 hown9 hgrow9 _ _; obtain ⟨v9a, v9c, rfl⟩ := owns_shape hown9; have HO9 := Lib.hid hown9; have HB9 := Lib.hid (HB.out.grown hgrow9 HZ6.out (fun g hg => (owns_lt HO.out hg).1)); clear hown9 hgrow9))
            go_roundw
            case rel => exact ⟨k + 1, by omega, by go_num, by
              rw [HF1.out, HS.out, List.length_append]
              have e : encI (f ++ x) = encI f ++ encI x := by simp [encI]
              rw [e]; exact HO9.out, HB9.out⟩
            case measure => simp [intOf]; omega
        · have hkg2 : k = g.length := by omega
          rw [hkg2, HRes.out] at HO
          have HO2 := HO
          generalize hv : Value.slice va (g.take k).flatten.length vc = v at *
          rw [hkg2, HRes.out] at hv
          rw [hv] at HO2
          clear hfl
          go_wp2_with fail
          go_ret
          exact ⟨⟨_, rfl, HO2.out⟩, HB.out⟩
end Go.Proofs.Ytahaoddilejpnaa
