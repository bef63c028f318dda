/- The law SatFlips. -/
import Derived.Test.YtahaoddilejpnaaFB
import Derived.Test.YtahaoddilejpnaaL3
namespace Go.Proofs.Ytahaoddilejpnaa
open Go.RowKit

theorem flipI_flipI (v l : Int) : flipI v (flipI v l) = l := by
  unfold flipI
  by_cases h : l = v ∨ l = -v
  · rw [if_pos h, if_pos (by omega)]; omega
  · rw [if_neg h, if_neg h]
theorem flipL_flipL (v : Int) (g : List (List Int)) : flipL v (flipL v g) = g := by
  unfold flipL
  rw [List.map_map]
  conv => rhs; rw [← List.map_id g]
  apply List.map_congr_left
  intro k _
  show List.map (flipI v) (List.map (flipI v) k) = id k
  rw [List.map_map]
  conv => rhs; rw [id, ← List.map_id k]
  apply List.map_congr_left
  intro l _
  exact flipI_flipI v l
theorem flipI_lit {n v l : Int} (h : litB n l = true) : litB n (flipI v l) = true := by
  have := lit_bds h
  unfold flipI
  split
  · unfold litB; apply decide_eq_true; omega
  · exact h
theorem flip_lits {n v : Int} {g : List (List Int)} (h : AllLits n g) : AllLits n (flipL v g) := fun k hk x hx => by
  obtain ⟨k0, hk0, rfl⟩ := List.mem_map.1 hk
  obtain ⟨y, hy, rfl⟩ := List.mem_map.1 hx
  exact flipI_lit (h k0 hk0 y hy)
theorem litT_flipI {n b : Nat} {v x : Int} (hv : litB n v = true) (hx : litB n x = true) : litT (bitsM n b) (flipI v x) = litT (bitsM n (flipB (v.natAbs - 1) b)) x := by
  unfold flipI
  split
  · rename_i h
    have e : x.natAbs = v.natAbs := by omega
    rw [litT_neg hx, ← e, litT_flip hx]
  · rename_i h
    rw [litT_other hv hx (fun e => h (.inl e)) (fun e => h (.inr e))]
theorem holds_flip {n b : Nat} {v : Int} {g : List (List Int)} (hv : litB n v = true) (hg : AllLits n g) : holdsB (flipL v g) (bitsM n b) = holdsB g (bitsM n (flipB (v.natAbs - 1) b)) := by
  unfold holdsB flipL
  rw [List.all_map]
  refine all_congr_mem fun k hk => ?_
  show (List.map (flipI v) k).any _ = _
  rw [List.any_map]
  exact any_congr_mem fun x hx => litT_flipI hv (hg k hk x hx)
theorem cnt_flip {n : Nat} {v : Int} {g : List (List Int)} (hv : litB n v = true) (hg : AllLits n g) : cntTo n (flipL v g) (2 ^ n) = cntTo n g (2 ^ n) := by
  have hb := lit_bds hv
  rw [cnt_eq, cnt_eq, ← count_flip (n := n) (i := v.natAbs - 1) (by omega) fun b => holdsB g (bitsM n b)]
  exact count_congr fun b _ => holds_flip hv hg
theorem flipE_ok {n v : Int} {g : List (List Int)} (h : flipE n g v = 0) : validE n g = 0 ∧ 1 ≤ v ∧ v ≤ n := by
  unfold flipE at h
  split at h
  · split at h
    · omega
    · exact ⟨by assumption, by omega, by omega⟩
  · contradiction
theorem flip_short {v : Int} {g : List (List Int)} (hs : Short g) : Short (flipL v g) := by
  refine ⟨by rw [flip_len]; exact hs.len, fun k hk => ?_⟩
  rw [flip_len] at hk
  have := hs.row k hk
  unfold flipL
  rw [List.getD_eq_getElem?_getD, List.getElem?_map, List.getElem?_eq_getElem hk]
  rw [List.getD_eq_getElem?_getD, List.getElem?_eq_getElem hk] at this
  simpa using this
theorem flipR_short {n v : Int} {g : List (List Int)} (hs : Short g) : Short (flipR n g v) := by
  unfold flipR
  split
  · split
    · exact ⟨Nat.zero_le _, fun k hk => absurd hk (Nat.not_lt_zero _)⟩
    · exact flip_short hs
  · exact ⟨Nat.zero_le _, fun k hk => absurd hk (Nat.not_lt_zero _)⟩
/-- What there is to know when a variable was turned. -/
theorem flip_facts {n v : Int} {g : List (List Int)} (hs : Short g) (h : flipE n g v = 0) : flipR n g v = flipL v g ∧ flipE n (flipL v g) v = 0 ∧ flipR n (flipL v g) v = g ∧ modE n (flipL v g) = modE n g ∧ modN n (flipL v g) = modN n g := by
  obtain ⟨hv, h1, h2⟩ := flipE_ok h
  have hok := validE_ok hv
  have hal := allLits_of hok.2.2
  have hv2 : validE n (flipL v g) = 0 := validE_zero hok.1 hok.2.1 (by rw [flip_len]; have := hs.len; omega) (flip_lits hal)
  have hnv : ¬ (v < 1 ∨ n < v) := by omega
  refine ⟨?_, ?_, ?_, ?_, ?_⟩
  · unfold flipR; rw [if_pos hv, if_neg hnv]
  · unfold flipE; rw [if_pos hv2, if_neg hnv]
  · unfold flipR; rw [if_pos hv2, if_neg hnv, flipL_flipL]
  · unfold modE; rw [if_pos hv2, if_pos hv]
  · unfold modN
    rw [if_pos hv2, if_pos hv]
    have en : ((n.toNat : Nat) : Int) = n := by omega
    rw [cnt_flip (n := n.toNat) (v := v) (by rw [en]; unfold litB; apply decide_eq_true; omega) (by rw [en]; exact hal)]
set_option maxRecDepth 100000 in
set_option maxHeartbeats 1000000 in
theorem satFlips_any (n v : Int) (g : List (List Int)) (a : Option Addr) (cap : Nat) (w : World) (hin : RowsIn w a g) (hg : g.length ≤ maxLen) (hr : ∀ k, k < g.length → (g.getD k []).length ≤ maxLen) :
    Calls Try.prog 5 #[.int .i64 n, .slice a g.length cap, .int .i64 v] w fun e w' => e = .returned (.bool true) ∧ Below w.heap.size w w' := by
  have HL := Lib.hid (long_any n g a cap w hin hg hr)
  have HK := Lib.hid known_any
  cases hlo : longB n g
  rotate_left
  · rw [hlo] at HL
    clear hin hg hr hlo
    generalize g.length = p at *
    go_enter Try.func5, Try.ntmps5
    go_wp2_with fail
    refine HL.out.mono ?_; rintro e w2 ⟨rfl, rfl⟩
    go_wp2_with fail
    refine (HK.out _).mono ?_; rintro e w2 ⟨rfl, hb2⟩
    go_wp2_with fail
    go_ret
    exact ⟨rfl, hb2⟩
  rw [hlo] at HL
  have hs := short_of hlo
  have HA := Lib.hid (sFlip_any n v g a cap w hin hs)
  have HB : Hid (∀ W, Below w.heap.size w W → Calls Try.prog 20 #[.int .i64 n, .slice a g.length cap, .int .i64 v] W fun e w' => (∃ z, e = .returned (.tuple #[z, .int .i64 (flipE n g v)]) ∧ RowsOwn w' W.heap.size z (flipR n g v)) ∧ Below W.heap.size W w') :=
    Lib.hid fun W hb => rFlip_any n v g a cap W (hin.below hb) hs
  have HIn : Hid (∀ W, Below w.heap.size w W → RowsIn W a g) := Lib.hid fun W hb => hin.below hb
  have HSh := Lib.hid hs
  have HS2 := Lib.hid (flipR_short (n := n) (v := v) hs)
  have HF := Lib.hid (flip_facts (n := n) (v := v) hs)
  have HC : Hid (∀ W, Below w.heap.size w W → Calls Try.prog 22 #[.int .i64 n, .slice a g.length cap] W fun e w' => e = .returned (.tuple #[.int .i64 (modN n g : Nat), .int .i64 (modE n g)]) ∧ Below W.heap.size W w') :=
    Lib.hid fun W hb => sModels_any n g a cap W (hin.below hb) hs
  clear hin hg hr hlo hs
  generalize hE : flipE n g v = E at *
  clear hE
  by_cases h0 : E = 0
  rotate_left
  · have h0' : (E != 0) = true := by simpa using h0
    have hEE : (E != E) = false := by simp
    clear HF HC
    generalize flipR n g v = R at *
    generalize g.length = p at *
    go_enter Try.func5, Try.ntmps5
    go_wp2_with fail
    refine HL.out.mono ?_; rintro e w2 ⟨rfl, rfl⟩
    go_wp2_with fail
    refine HA.out.mono ?_; rintro e w2 ⟨⟨v2, rfl, hv2⟩, hb2⟩
    have HB2 := Lib.hid hb2; have HV2 := Lib.hid hv2; clear hb2 hv2
    go_wp2_with fail
    refine (HB.out _ HB2.out).mono ?_; rintro e w3 ⟨⟨v3, rfl, hv3⟩, hb3⟩
    have HB3 := Lib.hid (HB2.out.trans (hb3.mono HB2.out.size))
    obtain ⟨a2, c2, rfl, hr2⟩ := (HV2.out.below hb3).rows
    obtain ⟨a3, c3, rfl, hr3⟩ := hv3.rows
    have HS := Lib.hid (sameLists_any R a2 a3 c2 c3 w3 hr2 hr3 HS2.out)
    clear hb3 hv3 hr2 hr3
    go_wp2_with fail
    refine HS.out.mono ?_; rintro e w4 ⟨rfl, hb4⟩
    have HB4 := Lib.hid (HB3.out.trans (hb4.mono HB3.out.size)); clear hb4
    go_wp2_with fail
    refine (HK.out _).mono ?_; rintro e w5 ⟨rfl, hb5⟩
    go_wp2_with fail
    go_ret
    exact ⟨rfl, HB4.out.trans (hb5.mono HB4.out.size)⟩
  subst h0
  obtain ⟨e1, e2, e3, e4, e5⟩ := HF.out rfl
  rw [e1] at HA HB HS2
  have HD : Hid (∀ W b c, RowsIn W b (flipL v g) → Calls Try.prog 19 #[.int .i64 n, .slice b (flipL v g).length c, .int .i64 v] W fun e w' => (∃ z, e = .returned (.tuple #[z, .int .i64 0]) ∧ RowsOwn w' W.heap.size z g) ∧ Below W.heap.size W w') := Lib.hid fun W b c h => by
    have := sFlip_any n v _ b c W h HS2.out
    rwa [e2, e3] at this
  have HM : Hid (∀ W b c, RowsIn W b (flipL v g) → Calls Try.prog 22 #[.int .i64 n, .slice b (flipL v g).length c] W fun e w' => e = .returned (.tuple #[.int .i64 (modN n g : Nat), .int .i64 (modE n g)]) ∧ Below W.heap.size W w') := Lib.hid fun W b c h => by
    have := sModels_any n _ b c W h HS2.out
    rwa [e4, e5] at this
  clear HF e1 e2 e3 e4 e5
  have hxx : (modE n g == modE n g) = true := by simp
  have hyy : ((modN n g : Int) == (modN n g : Int)) = true := by simp
  generalize modE n g = X at *
  generalize modN n g = Y at *
  generalize flipL v g = R at *
  go_enter Try.func5, Try.ntmps5
  go_wp2_with fail
  refine HL.out.mono ?_; rintro e w2 ⟨rfl, rfl⟩
  go_wp2_with fail
  refine HA.out.mono ?_; rintro e w2 ⟨⟨v2, rfl, hv2⟩, hb2⟩
  have HB2 := Lib.hid hb2; have HV2 := Lib.hid hv2; clear hb2 hv2
  go_wp2_with fail
  refine (HB.out _ HB2.out).mono ?_; rintro e w3 ⟨⟨v3, rfl, hv3⟩, hb3⟩
  have HB3 := Lib.hid (HB2.out.trans (hb3.mono HB2.out.size))
  obtain ⟨a2, c2, rfl, hr2⟩ := (HV2.out.below hb3).rows
  obtain ⟨a3, c3, rfl, hr3⟩ := hv3.rows
  have HS := Lib.hid (sameLists_any R a2 a3 c2 c3 w3 hr2 hr3 HS2.out)
  have HR2 := Lib.hid hr2
  clear hb3 hv3 hr2 hr3
  go_wp2_with fail
  refine HS.out.mono ?_; rintro e w4 ⟨rfl, hb4⟩
  have HB4 := Lib.hid (HB3.out.trans (hb4.mono HB3.out.size))
  have HR4 := Lib.hid (HR2.out.below hb4)
  have HD4 := Lib.hid (HD.out w4 a2 c2 HR4.out)
  clear hb4
  go_wp2_with fail
  refine HD4.out.mono ?_; rintro e w5 ⟨⟨v5, rfl, hv5⟩, hb5⟩
  have HB5 := Lib.hid (HB4.out.trans (hb5.mono HB4.out.size)); have HV5 := Lib.hid hv5
  have HR5 := Lib.hid (HR4.out.below hb5)
  clear hb5 hv5
  go_wp2_with fail
  refine (HC.out _ HB5.out).mono ?_; rintro e w6 ⟨rfl, hb6⟩
  have HB6 := Lib.hid (HB5.out.trans (hb6.mono HB5.out.size)); have HV6 := Lib.hid (HV5.out.below hb6)
  have HM6 := Lib.hid (HM.out w6 a2 c2 (HR5.out.below hb6))
  clear hb6
  go_wp2_with fail
  refine HM6.out.mono ?_; rintro e w7 ⟨rfl, hb7⟩
  have HB7 := Lib.hid (HB6.out.trans (hb7.mono HB6.out.size))
  obtain ⟨a7, c7, rfl, hr7⟩ := (HV6.out.below hb7).rows
  have HS7 := Lib.hid (sameLists_any g a7 a c7 cap w7 hr7 (HIn.out _ HB7.out) HSh.out)
  clear hb7 hr7
  go_wp2_with fail
  refine HS7.out.mono ?_; rintro e w8 ⟨rfl, hb8⟩
  have HB8 := Lib.hid (HB7.out.trans (hb8.mono HB7.out.size)); clear hb8
  go_wp2_with fail
  refine (HK.out _).mono ?_; rintro e w9 ⟨rfl, hb9⟩
  go_wp2_with fail
  go_ret
  exact ⟨rfl, HB8.out.trans (hb9.mono HB8.out.size)⟩
end Go.Proofs.Ytahaoddilejpnaa
