/- The walks of the specification's Count and Best. -/
import Derived.Test.YtccpjfppkahbmaaB7
import Derived.Test.YtccpjfppkahbmaaH2
import Derived.Test.YtccpjfppkahbmaaTA
namespace Go.Proofs.Ytccpjfppkahbmaa
open Go.RowKit PK

def okO (l : List Cd) (p : List Int) : Bool := ordOK l p p.length
def cntK (l : List Cd) (P : List (List Int)) (k : Nat) : Nat := ((P.take k).filter (okO l)).length
theorem takeL_succ {P : List (List Int)} {k : Nat} (h : k < P.length) : P.take (k + 1) = P.take k ++ [P.getD k []] := by
  rw [List.take_succ_eq_append_getElem h, List.getD_eq_getElem?_getD, List.getElem?_eq_getElem h]; rfl
theorem cntK_succ (l : List Cd) {P : List (List Int)} {k : Nat} (h : k < P.length) : cntK l P (k + 1) = cntK l P k + if okO l (P.getD k []) = true then 1 else 0 := by
  unfold cntK
  rw [takeL_succ h, List.filter_append, List.length_append, List.filter_cons]
  split <;> simp_all
theorem cntK_le (l : List Cd) (P : List (List Int)) (k : Nat) : cntK l P k ≤ k := by
  unfold cntK
  refine Nat.le_trans (List.length_filter_le _ _) ?_
  rw [List.length_take]; omega
def permsO (l : List Cd) : List (List Int) := permsL l.length (iota l.length)
theorem permsO_range {l : List Cd} {p : List Int} (h : p ∈ permsO l) : p.length = l.length ∧ ∀ k, k < p.length → 0 ≤ p.getD k 0 ∧ p.getD k 0 < (l.length : Int) := by
  refine ⟨permsL_len _ _ _ (iota_len _) h, fun k hk => ?_⟩
  have h1 : p.getD k 0 ∈ iota l.length := (permsL_mem _ _ _ (iota_len _) h).1 (by rw [getD_get hk]; exact List.getElem_mem hk)
  unfold iota at h1
  obtain ⟨j, hj, e⟩ := List.mem_map.1 h1
  have := List.mem_range.1 hj
  omega
theorem getD_memL {P : List (List Int)} {k : Nat} (h : k < P.length) : P.getD k [] ∈ P := by
  rw [List.getD_eq_getElem?_getD, List.getElem?_eq_getElem h]
  exact List.getElem_mem h
/-- numbers and orders. -/
theorem allO_any (l : List Cd) (hl : l.length ≤ 6) (w : World) (a : Option Addr) (cap : Nat) (hin : IntsIn w a (iota l.length)) (hc : (iota l.length).length ≤ cap) (hcm : cap ≤ maxLen) :
    Calls Try.prog 58 #[.slice a l.length cap] w fun e w' => (∃ v, e = .returned v ∧ RowsOwn w' w.heap.size v (permsO l)) ∧ Below w.heap.size w w' := by
  have := rOrders_any l.length (iota l.length) a cap w (iota_len _) hl hin hc hcm
  rw [iota_len] at this
  exact this
set_option maxRecDepth 100000 in
set_option maxHeartbeats 4000000 in
theorem rCount_any (l : List Cd) (a : Option Addr) (cap : Nat) (w : World) (hin : CdsIn w a l) (hl : l.length ≤ 1099511627776) :
    Calls Try.prog 30 #[.slice a l.length cap] w (CountPost l w) := by
  have HV := Lib.hid (rValidate_any l a cap w hin hl)
  unfold CountPost countV
  have HF : Hid (fewE l = if tErr l = 0 then (if l.length ≤ 6 then 0 else 3) else tErr l) := Lib.hid rfl
  by_cases hz : tErr l = 0
  · rw [hz] at HV HF
    obtain ⟨_, hok⟩ := tErr_zero hz
    clear hz
    by_cases h6 : l.length ≤ 6
    · have h6i : (l.length : Int) ≤ 6 := by omega
      have hfe : fewE l = 0 := by rw [HF.out]; simp [h6]
      rw [hfe, if_pos rfl]
      have HI := Lib.hid hin
      have HNu := Lib.hid (fun u => rNumbers_any l.length (by omega) u)
      have HAl := Lib.hid (fun u ra rc => allO_any l h6 u ra rc)
      have HOk := Lib.hid hok
      have HDf : Hid ((dfsL l l.length []).length = cntK l (permsO l) (permsO l).length) := Lib.hid (by rw [dfs_perms]; unfold cntK; rw [List.take_length]; rfl)
      have hps : (permsO l).length ≤ 46656 := permsL_small (iota_len _) h6
      clear hin hok hfe HF hl
      go_enter Try.func30, Try.ntmps30
      go_wp2_with fail
      refine HV.out.mono ?_; rintro e w2 ⟨rfl, hb2⟩
      have HB2 := Lib.hid hb2
      clear hb2 HV
      go_wp2_with fail
      refine (HNu.out _).mono ?_; rintro e w3 ⟨⟨v3, rfl, ho3⟩, hb3⟩
      have hcm3 := ho3
      obtain ⟨a3, c3, rfl, hc3, hi3⟩ := ints_of_owns ho3
      have HA3 := Lib.hid (HAl.out w3 a3 c3 hi3 hc3 (owns_cap hcm3))
      have HB3 := Lib.hid (HB2.out.trans (hb3.mono HB2.out.size))
      rw [iota_len]
      clear ho3 hb3 hcm3 hi3 hc3 HNu HAl
      go_wp2_with fail
      refine HA3.out.mono ?_; rintro e w4 ⟨⟨v4, rfl, hr4⟩, hb4⟩
      obtain ⟨a4, c4, rfl⟩ := hr4.shape
      have HR4 := Lib.hid hr4
      have HB4 := Lib.hid (HB3.out.trans (hb4.mono HB3.out.size))
      have HRg := Lib.hid (fun (p : List Int) (h : p ∈ permsO l) => permsO_range h)
      clear hr4 hb4 HA3
      generalize hP : permsO l = P at *
      clear hP
      go_wp2_with fail
      go_loopw [5, 7] (fun c i wr => ∃ k : Nat, k ≤ P.length ∧ i = .int .i64 k ∧ c = .int .i64 (cntK l P k : Int) ∧ Below w4.heap.size w4 wr) (fun _ i _ => P.length - (intOf i).toNat)
      case atStart => exact ⟨0, Nat.zero_le _, rfl, rfl, Below.refl _ _⟩
      case round =>
        obtain ⟨k, hk, rfl, rfl, hb⟩ := hrel
        by_cases hlt : k < P.length
        · have hki : (k : Int) < (P.length : Int) := by omega
          have hk0 : (0 : Int) ≤ (k : Int) := by omega
          obtain ⟨g, c, a5, cap5, e5, hc5, hcp5, hi5⟩ : ∃ g c a cap, Value.slice a4 P.length c4 = .slice (some ⟨g, 0, none⟩) P.length c ∧ wr.cell? ⟨g, k, none⟩ = some (.slice a (P.getD k []).length cap) ∧ (P.getD k []).length ≤ cap ∧ IntsIn wr a (P.getD k []) := by
            obtain ⟨g, c, a, cap, h1, _, _, h2, h3, _, h4, _⟩ := (HR4.out.below hb).bet k hlt
            exact ⟨g, c, a, cap, h1, h2, h3, h4⟩
          simp only [Value.slice.injEq, true_and] at e5
          obtain ⟨rfl, rfl⟩ := e5
          have HBw := Lib.hid (HB4.out.trans (hb.mono HB4.out.size))
          have hpm := HRg.out (P.getD k []) (getD_memL hlt)
          have HCs := Lib.hid (cntK_succ l hlt)
          have hcl := cntK_le l P k
          have HIs := Lib.hid (rIsOrder_any l a cap (P.getD k []) a5 cap5 wr (HI.out.below HBw.out) HOk.out hi5 (by omega) hpm.2)
          rw [hpm.1] at HIs hc5
          have HB := Lib.hid hb
          have HO : Hid (ordOK l (P.getD k []) l.length = okO l (P.getD k [])) := Lib.hid (by unfold okO; rw [hpm.1])
          rw [HO.out] at HIs
          clear hpm hi5 hcp5 hb
          generalize okO l (P.getD k []) = ob at *
          generalize P.getD k [] = p at *
          generalize hcn : cntK l P (k + 1) = cn at *
          have HCn := Lib.hid hcn; clear hcn
          generalize cntK l P k = ck at *
          go_wp2_with fail
          refine HIs.out.mono ?_; rintro e w6 ⟨rfl, hb6⟩
          have HB6 := Lib.hid (HB.out.trans (hb6.mono HB.out.size))
          clear hb6
          cases ob
          · go_wp2_with fail
            go_roundw
            case rel => exact ⟨k + 1, by omega, by go_num, by rw [HCn.out, HCs.out]; simp, HB6.out⟩
            case measure => simp [intOf]; omega
          · go_wp2_with fail
            go_roundw
            case rel => exact ⟨k + 1, by omega, by go_num, by rw [HCn.out, HCs.out]; simp, HB6.out⟩
            case measure => simp [intOf]; omega
        · obtain rfl : k = P.length := by omega
          have HB := Lib.hid (HB4.out.trans (hb.mono HB4.out.size))
          clear hb
          go_wp2_with fail
          go_ret2
          exact ⟨by rw [HDf.out]; rfl, HB.out⟩
    · have h6i : (6 : Int) < (l.length : Int) := by omega
      have hfe : fewE l = 3 := by rw [HF.out]; simp [h6]
      rw [hfe]
      clear HF h6 hok
      generalize l.length = n at *
      go_enter Try.func30, Try.ntmps30
      go_wp2_with fail
      refine HV.out.mono ?_; rintro e w2 ⟨rfl, hb2⟩
      go_wp2_with fail
      go_ret2
      exact ⟨rfl, hb2⟩
  · have hfe : fewE l = tErr l := by rw [HF.out, if_neg hz]
    rw [hfe, if_neg hz]
    clear HF hfe
    generalize tErr l = te at *
    go_enter Try.func30, Try.ntmps30
    go_wp2_with fail
    refine HV.out.mono ?_; rintro e w2 ⟨rfl, hb2⟩
    go_wp2_with fail
    go_ret2
    exact ⟨rfl, hb2⟩
/-- The best of the first k lists. -/
def bestT (l : List Cd) (P : List (List Int)) (k : Nat) : List Int × Int := bestF (costO l) ((P.take k).filter (okO l))
theorem bestT_succ (l : List Cd) {P : List (List Int)} {k : Nat} (h : k < P.length) : bestT l P (k + 1) = if okO l (P.getD k []) = true then bestS (costO l) (bestT l P k) (P.getD k []) else bestT l P k := by
  unfold bestT
  rw [takeL_succ h, List.filter_append, List.filter_cons]
  split
  · rw [List.filter_nil, bestF_snoc]
  · rw [List.filter_nil, List.append_nil]
theorem bestF_small (c : List Int → Int) (B : Int) (os : List (List Int)) (h : ∀ o, o ∈ os → 0 ≤ c o ∧ c o ≤ B) : ∀ b : List Int × Int, -1 ≤ b.2 → b.2 ≤ B → -1 ≤ (os.foldl (bestS c) b).2 ∧ (os.foldl (bestS c) b).2 ≤ B := by
  induction os with
  | nil => exact fun b h1 h2 => ⟨h1, h2⟩
  | cons a os ih =>
    intro b h1 h2
    have ha := h a List.mem_cons_self
    rw [List.foldl_cons]
    refine ih (fun o ho => h o (List.mem_cons_of_mem _ ho)) _ ?_ ?_
    · unfold bestS; split
      · show -1 ≤ c a; omega
      · exact h1
    · unfold bestS; split
      · exact ha.2
      · exact h2
set_option maxRecDepth 100000 in
set_option maxHeartbeats 4000000 in
theorem rBest_any (l : List Cd) (a : Option Addr) (cap : Nat) (w : World) (hin : CdsIn w a l) (hl : l.length ≤ 1099511627776) :
    Calls Try.prog 32 #[.slice a l.length cap] w (BestPost l w) := by
  have HV := Lib.hid (rValidate_any l a cap w hin hl)
  unfold BestPost bestV
  have HF : Hid (fewE l = if tErr l = 0 then (if l.length ≤ 6 then 0 else 3) else tErr l) := Lib.hid rfl
  by_cases hz : tErr l = 0
  · rw [hz] at HV HF
    obtain ⟨_, hok⟩ := tErr_zero hz
    clear hz
    by_cases h6 : l.length ≤ 6
    · have h6i : (l.length : Int) ≤ 6 := by omega
      have hfe : fewE l = 0 := by rw [HF.out]; simp [h6]
      rw [hfe, if_pos rfl]
      have HI := Lib.hid hin
      have HNu := Lib.hid (fun u => rNumbers_any l.length (by omega) u)
      have HAl := Lib.hid (fun u ra rc => allO_any l h6 u ra rc)
      have HOk := Lib.hid hok
      have HDf : Hid (bestF (costO l) (dfsL l l.length []) = bestT l (permsO l) (permsO l).length) := Lib.hid (by rw [dfs_perms]; unfold bestT; rw [List.take_length]; rfl)
      have hps : (permsO l).length ≤ 46656 := permsL_small (iota_len _) h6
      clear hin hok hfe HF hl
      go_enter Try.func32, Try.ntmps32
      go_wp2_with fail
      refine HV.out.mono ?_; rintro e w2 ⟨rfl, hb2⟩
      have HB2 := Lib.hid hb2
      clear hb2 HV
      go_wp2_with fail
      refine (HNu.out _).mono ?_; rintro e w3 ⟨⟨v3, rfl, ho3⟩, hb3⟩
      have hcm3 := ho3
      obtain ⟨a3, c3, rfl, hc3, hi3⟩ := ints_of_owns ho3
      have HA3 := Lib.hid (HAl.out w3 a3 c3 hi3 hc3 (owns_cap hcm3))
      have HB3 := Lib.hid (HB2.out.trans (hb3.mono HB2.out.size))
      rw [iota_len]
      clear ho3 hb3 hcm3 hi3 hc3 HNu HAl
      go_wp2_with fail
      refine HA3.out.mono ?_; rintro e w4 ⟨⟨v4, rfl, hr4⟩, hb4⟩
      obtain ⟨a4, c4, rfl⟩ := hr4.shape
      have HR4 := Lib.hid hr4
      have HB4 := Lib.hid (HB3.out.trans (hb4.mono HB3.out.size))
      have HRg := Lib.hid (fun (p : List Int) (h : p ∈ permsO l) => permsO_range h)
      clear hr4 hb4 HA3
      have HSmall : Hid (∀ k, -1 ≤ (bestT l (permsO l) k).2 ∧ (bestT l (permsO l) k).2 ≤ 100) := Lib.hid (fun k => bestF_small _ 100 _ (fun o ho => by
        have h1 := List.mem_of_mem_take (List.mem_filter.1 ho).1
        have h2 := costO_small l o
        have h3 := (HRg.out o h1).1
        omega) ([], -1) (by decide) (by decide))
      generalize hP : permsO l = P at *
      clear hP
      go_wp2_with fail
      go_loopw [6, 7, 9] (fun v c i wr => ∃ k : Nat, k ≤ P.length ∧ i = .int .i64 k ∧ c = .int .i64 (bestT l P k).2 ∧ (∃ ba bc, v = .slice ba (bestT l P k).1.length bc ∧ IntsIn wr ba (bestT l P k).1) ∧ Below w4.heap.size w4 wr) (fun _ _ i _ => P.length - (intOf i).toNat)
      case atStart => exact ⟨0, Nat.zero_le _, rfl, rfl, ⟨none, 0, rfl, IntsIn.nil _ _⟩, Below.refl _ _⟩
      case round =>
        obtain ⟨k, hk, rfl, rfl, ⟨ba, bc, rfl, hbi⟩, hb⟩ := hrel
        by_cases hlt : k < P.length
        · have hki : (k : Int) < (P.length : Int) := by omega
          have hk0 : (0 : Int) ≤ (k : Int) := by omega
          obtain ⟨g, c, a5, cap5, e5, hc5, hcp5, hi5⟩ : ∃ g c a cap, Value.slice a4 P.length c4 = .slice (some ⟨g, 0, none⟩) P.length c ∧ wr.cell? ⟨g, k, none⟩ = some (.slice a (P.getD k []).length cap) ∧ (P.getD k []).length ≤ cap ∧ IntsIn wr a (P.getD k []) := by
            obtain ⟨g, c, a, cap, h1, _, _, h2, h3, _, h4, _⟩ := (HR4.out.below hb).bet k hlt
            exact ⟨g, c, a, cap, h1, h2, h3, h4⟩
          simp only [Value.slice.injEq, true_and] at e5
          obtain ⟨rfl, rfl⟩ := e5
          have HBw := Lib.hid (HB4.out.trans (hb.mono HB4.out.size))
          have hpm := HRg.out (P.getD k []) (getD_memL hlt)
          have HCs := Lib.hid (bestT_succ l hlt)
          have hsm := HSmall.out k
          have HIs := Lib.hid (rIsOrder_any l a cap (P.getD k []) a5 cap5 wr (HI.out.below HBw.out) HOk.out hi5 (by omega) hpm.2)
          have HAp := Lib.hid (fun (u : World) (hu : Below wr.heap.size wr u) => rapply_any l a cap (P.getD k []) a5 cap5 u ((HI.out.below HBw.out).below hu) (hi5.below hu) (by omega) hpm.2)
          have HCo := Lib.hid (fun (ra : Option Addr) (rc : Nat) (u : World) h => rcost_any (applyL l (P.getD k [])) ra rc u h (by rw [applyL_len]; omega) (applyL_ok HOk.out (fun y hy => by
            obtain ⟨j, hj, rfl⟩ := List.mem_iff_getElem.1 hy
            have := hpm.2 j hj
            rwa [getD_get hj] at this)))
          have hcs := costO_small l (P.getD k [])
          have HCO : Hid (costN (applyL l (P.getD k [])) (applyL l (P.getD k [])).length = costO l (P.getD k [])) := Lib.hid (by rw [applyL_len]; rfl)
          rw [HCO.out, applyL_len, hpm.1] at HCo
          rw [hpm.1] at HIs hc5 HAp hcs
          have HI5 := Lib.hid hi5; have HBi := Lib.hid hbi
          have HB := Lib.hid hb
          have HO : Hid (ordOK l (P.getD k []) l.length = okO l (P.getD k [])) := Lib.hid (by unfold okO; rw [hpm.1])
          rw [HO.out] at HIs
          have HPl := Lib.hid hpm.1
          have HAL : Hid ((applyL l (P.getD k [])).length = l.length) := Lib.hid (by rw [applyL_len]; exact hpm.1)
          clear hpm hi5 hcp5 hb HCO HO hbi
          generalize okO l (P.getD k []) = ob at *
          generalize P.getD k [] = p at *
          generalize hbn : bestT l P (k + 1) = bn at *
          have HBn := Lib.hid hbn; clear hbn
          generalize bestT l P k = bk at *
          unfold bestS at HCs
          generalize costO l p = co at *
          go_wp2_with fail
          refine HIs.out.mono ?_; rintro e w6 ⟨rfl, hb6⟩
          have HB6 := Lib.hid (HB.out.trans (hb6.mono HB.out.size))
          have hc6 := keep hc5 hb6
          have HI6 := Lib.hid (HI5.out.below hb6)
          have HBi6 := Lib.hid (HBi.out.below hb6)
          have HAp6 := Lib.hid (HAp.out w6 hb6)
          clear hb6 hc5 HIs HAp HI5 HBi
          cases ob
          · have hbn : bn = bk := by have := HCs.out; rw [if_neg (by decide)] at this; rw [← HBn.out]; exact HBn.out.trans this
            have HBe := Lib.hid hbn; clear hbn
            go_wp2_with fail
            go_roundw
            case rel => exact ⟨k + 1, by omega, by go_num, by rw [HBn.out, HBe.out], ⟨_, _, by rw [HBn.out, HBe.out], by rw [HBn.out, HBe.out]; exact HBi6.out⟩, HB6.out⟩
            case measure => simp [intOf]; omega
          · have HCs2 : Hid (bn = if bk.2 < 0 ∨ co < bk.2 then (p, co) else bk) := Lib.hid (HCs.out.trans (if_pos (by trivial)))
            go_wp2_with fail
            refine HAp6.out.mono ?_; rintro e w7 ⟨⟨v7, rfl, ho7⟩, hb7⟩
            obtain ⟨ra, rc, rfl, _, hin7⟩ := cds_of_owns ho7
            rw [HAL.out]
            have HC7 := Lib.hid (HCo.out ra rc w7 hin7)
            have hc7 := keep hc6 hb7
            have HI7 := Lib.hid (HI6.out.below hb7)
            have HBi7 := Lib.hid (HBi6.out.below hb7)
            have HB7 := Lib.hid (HB6.out.trans (hb7.mono HB6.out.size))
            clear ho7 hb7 hin7 HAp6 HCo hc6
            go_wp2_with fail
            refine HC7.out.mono ?_; rintro e w8 ⟨rfl, hb8⟩
            have hc8 := keep hc7 hb8
            have HI8 := Lib.hid (HI7.out.below hb8)
            have HBi8 := Lib.hid (HBi7.out.below hb8)
            have HB8 := Lib.hid (HB7.out.trans (hb8.mono HB7.out.size))
            clear hb8 HC7 hc7 HI7 HBi7 HB7
            by_cases h0 : bk.2 < 0
            · have HBe : Hid (bn = (p, co)) := Lib.hid (HCs2.out.trans (if_pos (.inl h0)))
              go_wp2_with fail
              go_roundw
              case rel => exact ⟨k + 1, by omega, by go_num, by rw [HBn.out, HBe.out], ⟨a5, cap5, by rw [HBn.out, HBe.out, HPl.out], by rw [HBn.out, HBe.out]; exact HI8.out⟩, HB8.out⟩
              case measure => simp [intOf]; omega
            · by_cases h1 : co < bk.2
              · have HBe : Hid (bn = (p, co)) := Lib.hid (HCs2.out.trans (if_pos (.inr h1)))
                go_wp2_with fail
                go_roundw
                case rel => exact ⟨k + 1, by omega, by go_num, by rw [HBn.out, HBe.out], ⟨a5, cap5, by rw [HBn.out, HBe.out, HPl.out], by rw [HBn.out, HBe.out]; exact HI8.out⟩, HB8.out⟩
                case measure => simp [intOf]; omega
              · have HBe : Hid (bn = bk) := Lib.hid (HCs2.out.trans (if_neg (fun c => c.elim h0 h1)))
                go_wp2_with fail
                go_roundw
                case rel => exact ⟨k + 1, by omega, by go_num, by rw [HBn.out, HBe.out], ⟨_, _, by rw [HBn.out, HBe.out], by rw [HBn.out, HBe.out]; exact HBi8.out⟩, HB8.out⟩
                case measure => simp [intOf]; omega
        · obtain rfl : k = P.length := by omega
          have HB := Lib.hid (HB4.out.trans (hb.mono HB4.out.size))
          have HBi := Lib.hid hbi
          clear hb hbi
          go_wp2_with fail
          exact bodyPost_ret (v := .tuple #[.slice ba (bestT l P P.length).1.length bc, .int .i64 (bestT l P P.length).2, .int .i64 0]) (by simp [results, Try.results32, go_sem]) rfl ⟨⟨ba, bc, by rw [HDf.out], by rw [HDf.out]; exact HBi.out⟩, HB.out⟩
    · have h6i : (6 : Int) < (l.length : Int) := by omega
      have hfe : fewE l = 3 := by rw [HF.out]; simp [h6]
      rw [hfe, if_neg (show ¬ (3 : Int) = 0 by decide)]
      clear HF h6 hok
      generalize l.length = n at *
      go_enter Try.func32, Try.ntmps32
      go_wp2_with fail
      refine HV.out.mono ?_; rintro e w2 ⟨rfl, hb2⟩
      go_wp2_with fail
      exact bodyPost_ret (v := .tuple #[.slice none 0 0, .int .i64 0, .int .i64 3]) (by simp [results, Try.results32, go_sem]) rfl ⟨⟨none, 0, rfl, IntsIn.nil _ _⟩, hb2⟩
  · have hfe : fewE l = tErr l := by rw [HF.out, if_neg hz]
    rw [hfe, if_neg hz]
    clear HF hfe
    generalize tErr l = te at *
    go_enter Try.func32, Try.ntmps32
    go_wp2_with fail
    refine HV.out.mono ?_; rintro e w2 ⟨rfl, hb2⟩
    go_wp2_with fail
    exact bodyPost_ret (v := .tuple #[.slice none 0 0, .int .i64 0, .int .i64 te]) (by simp [results, Try.results32, go_sem]) rfl ⟨⟨none, 0, rfl, IntsIn.nil _ _⟩, hb2⟩
end Go.Proofs.Ytccpjfppkahbmaa
