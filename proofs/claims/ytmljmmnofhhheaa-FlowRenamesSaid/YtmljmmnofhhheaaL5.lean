/- The law FlowSorts. -/
import Derived.Test.YtmljmmnofhhheaaL4
namespace Go.Proofs.Ytmljmmnofhhheaa
open Go.RowKit

theorem goesI_mem {g : Gr} {a b : Nat} : goesI g a (b : Nat) = true ↔ b ∈ succ g a := by
  unfold goesI
  rw [List.any_eq_true]
  constructor
  · rintro ⟨x, hx, e⟩
    have e' : x = b := by simp at e; omega
    rw [← e']; exact hx
  · intro h
    exact ⟨b, h, by simp⟩
/-- A reducible graph without back edges has no way round. -/
theorem no_round {g : Gr} (ok : OkG g) (hb : backsL g = []) (hr : redB g = true) {u x : Nat} (hu : rs g (-1) 0 u = true) (hx : x ∈ succ g u) (hw : ReachB g (-1) x u) : False := by
  unfold redB at hr
  have hno := (@decide_eq_true_iff _ (Classical.propDecidable _)).1 hr
  apply hno
  have hrx : ReachB g (-1) 0 x := (rs_iff.1 hu).step hx (not_but x)
  refine ⟨fun j => @decide (ReachB g (-1) x j ∧ ReachB g (-1) j u) (Classical.propDecidable _), fun j hj => ?_, fun v hv => ?_, x, ?_⟩
  · have h := (@decide_eq_true_iff _ (Classical.propDecidable _)).1 hj
    exact rs_iff.2 (hrx.trans h.1)
  · have h := (@decide_eq_true_iff _ (Classical.propDecidable _)).1 hv
    have hp : ∃ p, (ReachB g (-1) x p ∧ ReachB g (-1) p u) ∧ v ∈ succ g p := by
      rcases h.1.ind (fun v => v = x ∨ ∃ p, ReachB g (-1) x p ∧ v ∈ succ g p) (fun _ => .inl rfl) (fun p y hp _ hy _ => .inr ⟨p, hp, hy⟩) with c | ⟨p, hp, hvp⟩
      · subst c
        exact ⟨u, ⟨hw, .here (not_but u)⟩, hx⟩
      · exact ⟨p, ⟨hp, ReachB.head (not_but p) hvp h.2⟩, hvp⟩
    obtain ⟨p, hp, hvp⟩ := hp
    refine ⟨p, (@decide_eq_true_iff _ (Classical.propDecidable _)).2 hp, rs_iff.2 (hrx.trans hp.1), goesI_mem.2 hvp, ?_⟩
    rw [← Bool.not_eq_true]
    intro c
    have : (p, v) ∈ backsL g := (mem_edgesL ok).2 ⟨rs_iff.2 (hrx.trans hp.1), goesI_mem.2 hvp, c⟩
    rw [hb] at this; cases this
  · exact (@decide_eq_true_iff _ (Classical.propDecidable _)).2 ⟨.here (not_but x), hw⟩
theorem order_node {g : List (List Int)} {i : Nat} (hv : validE g = 0) (hi : i < (orderR g).length) : rs (gN g) (-1) 0 ((orderR g).getD i 0) = true ∧ nodeE g [((orderR g).getD i 0 : Nat)] = 0 := by
  have ok := valid_ok hv
  have hm : (orderR g).getD i 0 ∈ orderR g := getD_mem hi
  have e : orderR g = orderL (gN g) := by unfold orderR; rw [if_pos hv]
  have hr : rs (gN g) (-1) 0 ((orderR g).getD i 0) = true := by
    rw [← order_mem ok, ← e]; exact hm
  refine ⟨hr, ?_⟩
  have hlt := (rs_iff.1 hr).lt ok.fits ok.pos
  rw [gN_len] at hlt
  unfold nodeE
  rw [if_pos hv]
  have : offB g.length ((orderR g).getD i 0 : Nat) = false := by
    unfold offB
    rw [Bool.or_eq_false_iff, decide_eq_false_iff_not, decide_eq_false_iff_not]
    omega
  rw [List.any_cons, this]; rfl
theorem sorted_order {g : List (List Int)} (hv : validE g = 0) (hb : backsR g = []) (hr : redR g = true) {i k : Nat} (hik : i ≤ k) (hk : k < (orderR g).length) :
    decide ((orderR g).getD k 0 ∈ beforeL g ((orderR g).getD i 0 : Nat)) = false := by
  have ok := valid_ok hv
  rw [decide_eq_false_iff_not]
  intro c
  have hnode := order_node hv (i := i) (by omega)
  have hnk := order_node hv hk
  unfold beforeL at c
  rw [if_pos hnode.2, setL_mem] at c
  have e : orderR g = orderL (gN g) := by unfold orderR; rw [if_pos hv]
  have hb' : backsL (gN g) = [] := by unfold backsR at hb; rwa [if_pos hv] at hb
  have hr' : redB (gN g) = true := by unfold redR at hr; rwa [if_pos hv] at hr
  have hgo : goesI (gN g) ((orderR g).getD k 0) ((orderR g).getD i 0 : Nat) = true := by
    have := c.2
    unfold beforeS at this
    exact (Bool.and_eq_true_iff.1 this).2
  have hm := goesI_mem.1 hgo
  refine no_round ok hb' hr' hnk.1 hm ?_
  rw [e] at hm hk ⊢
  exact order_behind ok hik hk hm
theorem pairs_pos {w : World} {v : Value} {ps : Pairs} (h : PairSl w v ps) : ∃ a cap, v = .slice a ps.length cap := by
  obtain ⟨a, cap, rfl, _⟩ := h
  exact ⟨a, cap, rfl⟩

set_option maxRecDepth 100000 in
set_option maxHeartbeats 4000000 in
theorem flowSorts_any (g : List (List Int)) (ga : Option Addr) (cap : Nat) (w : World) (hin : RowsIn w ga g) (hl : g.length ≤ maxLen) (hr : ∀ k, k < g.length → (g.getD k []).length ≤ maxLen) :
    Calls Try.prog 6 #[.slice ga g.length cap] w fun e w' => e = .returned (.bool true) ∧ Below w.heap.size w w' := by
  have HL := Lib.hid (long_any g ga cap w hin hl hr)
  cases hlong : longB g
  · rw [hlong] at HL
    have hs := short_of_long hlong
    have HO := Lib.hid (Order_any g ga cap w hin hs)
    have HBk : Hid (∀ w', Below w.heap.size w w' → Calls Try.prog 27 #[.slice ga g.length cap] w' (PairsPost (validE g) (backsR g) w')) := Lib.hid fun w' hb => Backs_any g ga cap w' (hin.below hb) hs
    have HI : Hid (∀ w', Below w.heap.size w w' → Calls Try.prog 13 #[.slice ga g.length cap] w' fun e w'' => e = .returned (.tuple #[.bool (redR g), .int .i64 (validE g)]) ∧ Below w'.heap.size w' w'') := Lib.hid fun w' hb => IsReducible_any g ga cap w' (hin.below hb) hs
    have HK := Lib.hid known_any
    by_cases hmain : validE g = 0 ∧ redR g = true ∧ backsR g = []
    · obtain ⟨hv, hred, hbk⟩ := hmain
      have HBf : Hid (∀ w' i, i < (orderR g).length → Below w.heap.size w w' → Calls Try.prog 23 #[.slice ga g.length cap, .int .i64 ((orderR g).getD i 0 : Nat)] w' (ListPost 0 (beforeL g ((orderR g).getD i 0 : Nat)) w')) := Lib.hid fun w' i hi hb => by
        have := Before_any g ga cap ((orderR g).getD i 0 : Nat) w' (hin.below hb) hs
        rwa [(order_node hv hi).2] at this
      have HNo : Hid (∀ i k, i ≤ k → k < (orderR g).length → decide ((orderR g).getD k 0 ∈ beforeL g ((orderR g).getD i 0 : Nat)) = false) := Lib.hid fun i k hik hk => sorted_order hv hbk hred hik hk
      have HBL : Hid (∀ i, (beforeL g ((orderR g).getD i 0 : Nat)).length ≤ 1000) := Lib.hid fun i => beforeL_len g _
      have hOl := orderR_len g
      rw [hv] at HO HBk HI
      rw [hred] at HI
      rw [hbk] at HBk
      clear hin hl hr hs hlong hv hred hbk
      obtain ⟨BL, hBL⟩ : ∃ BL : Nat → List Nat, ∀ i, beforeL g ((orderR g).getD i 0 : Nat) = BL i := ⟨_, fun _ => rfl⟩
      simp only [hBL] at HBf HNo HBL
      clear hBL
      generalize orderR g = O at *
      go_enter Try.func6, Try.ntmps6
      go_wp2_with fail
      refine HL.out.mono ?_; rintro e w1 ⟨rfl, rfl⟩
      go_wp2_with fail
      refine HO.out.mono ?_; rintro e w2 ⟨v2, rfl, h2, hb2⟩
      have H2 := Lib.hid h2; have HBa := Lib.hid hb2; clear h2 hb2
      go_wp2_with fail
      refine (HBk.out _ HBa.out).mono ?_; rintro e w3 ⟨v3, rfl, h3, hb3⟩
      obtain ⟨a3, c3, rfl⟩ := pairs_pos h3
      have H2b := Lib.hid (H2.out.below hb3); have HBb := Lib.hid (HBa.out.trans (hb3.mono HBa.out.size)); clear h3 hb3 H2 HBa
      go_wp2_with fail
      refine (HI.out _ HBb.out).mono ?_; rintro e w4 ⟨rfl, hb4⟩
      obtain ⟨a2, c2, rfl, n2⟩ := natsIn_of (H2b.out.below hb4)
      have HN2 := Lib.hid n2; have HBc := Lib.hid (HBb.out.trans (hb4.mono HBb.out.size)); clear n2 hb4 H2b HBb
      have hlen0 : (([] : Pairs).length : Int) = 0 := rfl
      go_wp2_with fail
      go_loopw [9] (fun i wr => ∃ k : Nat, k ≤ O.length ∧ i = .int .i64 k ∧ Below w.heap.size w wr ∧ Below w4.heap.size w4 wr) (fun i _ => O.length - (intOf i).toNat)
      case atStart => exact ⟨0, Nat.zero_le _, rfl, HBc.out, Below.refl _ _⟩
      case round =>
        obtain ⟨k, hk, rfl, hb, hb4⟩ := hrel
        by_cases hlt : k < O.length
        · have hki : (k : Int) < (O.length : Int) := by omega
          obtain ⟨b, off, rfl, hc⟩ := (HN2.out.below hb4) k hlt
          have HC := Lib.hid (HBf.out wr k hlt hb)
          have HBw := Lib.hid hb; have HB4 := Lib.hid hb4
          clear hb hb4
          generalize hx : O.getD k 0 = x at *
          clear hx
          go_wp2_with fail
          refine HC.out.mono ?_; rintro e w5 ⟨v5, rfl, h5, hb5⟩
          obtain ⟨a5, c5, rfl, n5⟩ := natsIn_of h5
          have HN5 := Lib.hid n5
          have HBx := Lib.hid (HBw.out.trans (hb5.mono HBw.out.size)); have HB4x := Lib.hid (HB4.out.trans (hb5.mono HB4.out.size))
          have HH : Hid (∀ m : Nat, k ≤ m → m < O.length → Calls Try.prog 28 #[.slice a5 (BL k).length c5, .int .i64 (O.getD m 0 : Nat)] w5 fun e w' => e = .returned (.bool false) ∧ w5 = w') := Lib.hid fun m hm hm2 => by
            have := has_any (BL k) a5 c5 (O.getD m 0) w5 n5 (HBL.out k)
            rwa [HNo.out k m hm hm2] at this
          clear n5 h5 hb5
          go_wp2_with fail
          go_loop [12] (fun j => ∃ m : Nat, k ≤ m ∧ m ≤ O.length ∧ j = .int .i64 m) (fun j => O.length - (intOf j).toNat)
          case atStart => exact ⟨k, Nat.le_refl _, hk, rfl⟩
          case round =>
            obtain ⟨m, hm1, hm2, rfl⟩ := hrel
            by_cases hmt : m < O.length
            · have hmi : (m : Int) < (O.length : Int) := by omega
              have hcm : w5.cell? ⟨b, off + m, none⟩ = some (.int .i64 (O.getD m 0 : Nat)) := by
                obtain ⟨b', off', e, hc'⟩ := (HN2.out.below HB4x.out) m hmt
                obtain ⟨rfl, rfl⟩ : b = b' ∧ off = off' := by simpa using e
                exact hc'
              have HHm := Lib.hid (HH.out m hm1 hmt)
              generalize O.getD m 0 = y at *
              go_wp2_with fail
              refine HHm.out.mono ?_; rintro e w6 ⟨rfl, rfl⟩
              go_wp2_with fail
              go_round
              case rel => exact ⟨m + 1, by omega, by omega, by go_num⟩
              case measure => simp [intOf]; omega
            · obtain rfl : m = O.length := by omega
              go_wp2_with fail
              go_roundw
              case rel => exact ⟨k + 1, by omega, by go_num, HBx.out, HB4x.out⟩
              case measure => simp [intOf]; omega
        · obtain rfl : k = O.length := by omega
          have HBw := Lib.hid hb
          clear hb hb4
          go_wp2_with fail
          refine (HK.out _).mono ?_; rintro e w7 ⟨rfl, hb7⟩
          go_wp2_with fail
          go_ret
          exact ⟨rfl, HBw.out.trans (hb7.mono HBw.out.size)⟩
    · have hcase : (((validE g == 0) = false) ∧ ¬ validE g = 0) ∨ (validE g = 0 ∧ redR g = false) ∨ (validE g = 0 ∧ redR g = true ∧ 0 < (backsR g).length) := by
        by_cases hv : validE g = 0
        · cases hred : redR g
          · exact .inr (.inl ⟨hv, rfl⟩)
          · refine .inr (.inr ⟨hv, rfl, ?_⟩)
            apply Nat.pos_of_ne_zero
            intro c
            exact hmain ⟨hv, hred, List.length_eq_zero_iff.1 c⟩
        · exact .inl ⟨by rw [beq_eq_false_iff_ne]; exact hv, hv⟩
      clear hin hl hr hs hlong hmain
      generalize validE g = E at *
      generalize redR g = D at *
      generalize backsR g = B at *
      generalize orderR g = O at *
      rcases hcase with ⟨hE, hE1⟩ | ⟨rfl, rfl⟩ | ⟨rfl, rfl, hpos⟩
      all_goals
        try have hposi : (0 : Int) < (B.length : Int) := by omega
        go_enter Try.func6, Try.ntmps6
        go_wp2_with fail
        refine HL.out.mono ?_; rintro e w1 ⟨rfl, rfl⟩
        go_wp2_with fail
        refine HO.out.mono ?_; rintro e w2 ⟨v2, rfl, h2, hb2⟩
        have HBa := Lib.hid hb2; clear h2 hb2
        go_wp2_with fail
        refine (HBk.out _ HBa.out).mono ?_; rintro e w3 ⟨v3, rfl, h3, hb3⟩
        obtain ⟨a3, c3, rfl⟩ := pairs_pos h3
        have HBb := Lib.hid (HBa.out.trans (hb3.mono HBa.out.size)); clear h3 hb3
        go_wp2_with fail
        refine (HI.out _ HBb.out).mono ?_; rintro e w4 ⟨rfl, hb4⟩
        have HBc := Lib.hid (HBb.out.trans (hb4.mono HBb.out.size)); clear hb4
        go_wp2_with fail
        refine (HK.out _).mono ?_; rintro e w7 ⟨rfl, hb7⟩
        go_wp2_with fail
        go_ret
        exact ⟨rfl, HBc.out.trans (hb7.mono HBc.out.size)⟩
  · rw [hlong] at HL
    have HK := Lib.hid known_any
    clear hin hl hr hlong
    go_enter Try.func6, Try.ntmps6
    go_wp2_with fail
    refine HL.out.mono ?_; rintro e w1 ⟨rfl, rfl⟩
    go_wp2_with fail
    refine (HK.out _).mono ?_; rintro e w2 ⟨rfl, hb2⟩
    go_wp2_with fail
    go_ret
    exact ⟨rfl, hb2⟩
end Go.Proofs.Ytmljmmnofhhheaa
