/- The walk of Merge of the document. -/
import Derived.Test.YtmhneonebjcieaaSW
import Derived.Test.YtmhneonebjcieaaMW
namespace Go.Proofs.Ytmhneonebjcieaa
open Go.RowKit

/-- A place that goes on into x. -/
def hitM (x p : Pl) : Bool := decide (p.va = x.va) && (decide (p.ki = x.ki) && (decide (p.nn = x.nn) && decide (p.to = x.fr)))
def updM (x p : Pl) : Pl := if hitM x p then ⟨p.fr, x.to, p.va, p.ki, p.nn⟩ else p
def mapM' (out : List Pl) (x : Pl) (k : Nat) : List Pl := (out.take k).map (updM x) ++ out.drop k
def anyM (out : List Pl) (x : Pl) (k : Nat) : Bool := (out.take k).any (hitM x)
def rStep (out : List Pl) (x : Pl) : List Pl := if out.any (hitM x) then out.map (updM x) else out ++ [x]
def rRun (l : List Pl) (k : Nat) : List Pl := (l.take k).foldl rStep []
theorem rRun_next {l : List Pl} {k : Nat} (h : k < l.length) : rRun l (k + 1) = rStep (rRun l k) (at' l k) := by
  unfold rRun
  rw [take_next h, List.foldl_append]; rfl
theorem mapM_zero (out : List Pl) (x : Pl) : mapM' out x 0 = out := by simp [mapM']
theorem mapM_full (out : List Pl) (x : Pl) : mapM' out x out.length = out.map (updM x) := by simp [mapM']
theorem anyM_full (out : List Pl) (x : Pl) : anyM out x out.length = out.any (hitM x) := by simp [anyM]
theorem mapM_len (out : List Pl) (x : Pl) (k : Nat) : (mapM' out x k).length = out.length := by simp [mapM']; omega
theorem mapM_at {out : List Pl} {x : Pl} {k : Nat} (h : k < out.length) : at' (mapM' out x k) k = at' out k := by
  unfold mapM' at'
  rw [List.getD_eq_getElem?_getD, List.getD_eq_getElem?_getD, List.getElem?_append_right (by simp; omega)]
  simp [Nat.min_eq_left (Nat.le_of_lt h)]
theorem drop_at {l : List Pl} {k : Nat} (h : k < l.length) : l.drop k = at' l k :: l.drop (k + 1) := by
  rw [List.drop_eq_getElem_cons h]
  unfold at'
  rw [List.getD_eq_getElem?_getD, List.getElem?_eq_getElem h]; rfl
theorem mapM_no {out : List Pl} {x : Pl} {k : Nat} (h : k < out.length) (hn : hitM x (at' out k) = false) : mapM' out x (k + 1) = mapM' out x k ∧ anyM out x (k + 1) = anyM out x k := by
  unfold mapM' anyM
  rw [take_next h, List.map_append, drop_at h, List.any_append]
  have e : updM x (at' out k) = at' out k := by unfold updM; rw [hn]; rfl
  simp [e, hn]
theorem mapM_yes {out : List Pl} {x : Pl} {k : Nat} (h : k < out.length) (hn : hitM x (at' out k) = true) : mapM' out x (k + 1) = setTo (mapM' out x k) k x.to ∧ anyM out x (k + 1) = true := by
  have ha := mapM_at (x := x) h
  unfold setTo
  rw [ha]
  unfold mapM' anyM
  rw [take_next h, List.map_append, drop_at h, List.any_append]
  have e : updM x (at' out k) = ⟨(at' out k).fr, x.to, (at' out k).va, (at' out k).ki, (at' out k).nn⟩ := by unfold updM; rw [hn]; rfl
  refine ⟨?_, by simp [hn]⟩
  rw [List.set_append_right _ _ (by simp; omega)]
  simp [e, Nat.min_eq_left (Nat.le_of_lt h)]
theorem rStep_len (out : List Pl) (x : Pl) : (rStep out x).length ≤ out.length + 1 := by
  unfold rStep
  split <;> simp
theorem rRun_len (l : List Pl) : ∀ k, k ≤ l.length → (rRun l k).length ≤ k
  | 0, _ => Nat.le_refl _
  | k + 1, h => by
    rw [rRun_next (by omega)]
    have := rRun_len l k (by omega)
    have := rStep_len (rRun l k) (at' l k)
    omega
/-- What Merge of the document tells. -/
def rMrgPost (l : List Pl) (B : Nat) (v : Value) (w' : World) : Prop :=
  if valE l = 0 then w'.ownsRow B 38 5 v (rRun l l.length).length (encPl (sortP (rRun l l.length))) else v = .slice none 0 0
set_option maxRecDepth 100000 in
set_option maxHeartbeats 4000000 in
theorem rMerge_any (l : List Pl) (a : Option Addr) (cap : Nat) (w : World) (hin : PlsIn w a l) (hl : l.length ≤ 1000) :
    Calls Try.prog 25 #[.slice a l.length cap] w fun e w' => (∃ v, e = .returned (.tuple #[v, .int .i64 (valE l)]) ∧ rMrgPost l w.heap.size v w') ∧ Below w.heap.size w w' := by
  have HV := Lib.hid (rValid_any l a cap w hin hl)
  have HI := Lib.hid hin
  clear hin
  by_cases hE : valE l = 0
  rotate_left
  · have HD : Hid (∀ w', rMrgPost l w.heap.size (.slice none 0 0) w') := Lib.hid fun w' => by unfold rMrgPost; rw [if_neg hE]
    have hne : (valE l != 0) = true := bne_iff_ne.2 hE
    generalize valE l = E at *
    clear hE
    go_enter Try.func25, Try.ntmps25
    go_wp2_with fail
    refine HV.out.mono ?_; rintro e w1 ⟨rfl, hb1⟩
    go_wp2_with fail
    go_ret2
    exact ⟨⟨_, rfl, HD.out _⟩, hb1⟩
  have HPost : Hid (∀ v w' B, w.heap.size ≤ B → w'.ownsRow B 38 5 v (rRun l l.length).length (encPl (sortP (rRun l l.length))) → rMrgPost l w.heap.size v w') := Lib.hid fun v w' B hB ho => by unfold rMrgPost; rw [if_pos hE]; exact owns_base ho hB
  rw [hE] at HV ⊢
  clear hE
  obtain ⟨i0, hi, ip0, ip1, ip2⟩ := info_parts Try.infoPlace
  go_enter Try.func25, Try.ntmps25
  go_wp2_with fail
  refine HV.out.mono ?_; rintro e w1 ⟨rfl, hb1⟩
  have HB1 := Lib.hid hb1
  clear hb1
  go_wp2_with fail
  go_loopw [5, 6] (fun u i wr => ∃ k : Nat, k ≤ l.length ∧ i = .int .i64 k ∧ wr.ownsRow w.heap.size 38 5 u (rRun l k).length (encPl (rRun l k)) ∧ Below w.heap.size w wr) (fun _ i _ => l.length - (intOf i).toNat)
  case atStart => exact ⟨0, Nat.zero_le _, rfl, ⟨rfl, .inl ⟨rfl, rfl⟩⟩, HB1.out⟩
  case round =>
    obtain ⟨i, hil, rfl, ho, hb⟩ := hrel
    obtain ⟨va, vc, rfl⟩ := owns_shape ho
    have hlen := rRun_len l i hil
    by_cases hlt : i < l.length
    · have hii : (i : Int) < (l.length : Int) := by omega
      have hi0 : (0 : Int) ≤ (i : Int) := by omega
      have hnx := rRun_next hlt
      have HO := Lib.hid ho; have HB := Lib.hid hb; have HSn := Lib.hid hnx
      clear ho hb hnx
      generalize rRun l i = out at *
      obtain ⟨wo, rfl⟩ : ∃ wo : World, wo = wr := ⟨_, rfl⟩
      go_wp2_with fail
      go_loopw [7, 8] (fun d j wr => ∃ k : Nat, k ≤ out.length ∧ j = .int .i64 k ∧ d = .bool (anyM out (at' l i) k) ∧ wr.ownsRow w.heap.size 38 5 (.slice va out.length vc) out.length (encPl (mapM' out (at' l i) k)) ∧ Below w.heap.size w wr) (fun _ j _ => out.length - (intOf j).toNat)
      case atStart => exact ⟨0, Nat.zero_le _, rfl, rfl, by rw [mapM_zero]; exact HO.out, HB.out⟩
      case round =>
        obtain ⟨k, hk, rfl, rfl, ho, hb⟩ := hrel
        by_cases hkt : k < out.length
        · have hki : (k : Int) < (out.length : Int) := by omega
          have hk0 : (0 : Int) ≤ (k : Int) := by omega
          obtain ⟨b, off, rfl, hpx⟩ := HI.out.below hb i hlt
          obtain ⟨g, gc, he, hgc, hgb, hgs, hpy, hfz, hset⟩ := owns_row5 (by rw [mapM_len]; exact ho) (k := k) (by rw [mapM_len]; exact hkt)
          rw [mapM_at hkt] at hpy
          simp only [Value.slice.injEq] at he
          obtain ⟨rfl, hx1, rfl⟩ := he
          clear hx1
          have HNo := Lib.hid (mapM_no (x := at' l i) hkt); have HYes := Lib.hid (mapM_yes (x := at' l i) hkt)
          have HSet := Lib.hid (hset (at' l i).to)
          rw [mapM_len] at HSet
          have fz1 := hfz (k * 5 + 1)
          have HO2 := Lib.hid ho; have HB2 := Lib.hid hb
          clear ho hb hfz hset
          generalize anyM out (at' l i) k = any at *
          generalize at' l i = x at *
          generalize at' out k = y at *
          obtain ⟨x0, x1, x2, x3, x4⟩ := x
          obtain ⟨y0, y1, y2, y3, y4⟩ := y
          obtain ⟨c0, c1, c2, c3, c4⟩ := hpx
          obtain ⟨d0, d1, d2, d3, d4⟩ := hpy
          simp only at c0 c1 c2 c3 c4 d0 d1 d2 d3 d4
          by_cases h0 : y2 = x2
          rotate_left
          · have HN : Hid (hitM ⟨x0, x1, x2, x3, x4⟩ ⟨y0, y1, y2, y3, y4⟩ = false) := Lib.hid (by unfold hitM; simp [h0])
            have HNn := Lib.hid (HNo.out HN.out)
            have hb0 : (y2 == x2) = false := beq_eq_false_iff_ne.2 h0
            have he0 : decide (y2 = x2) = false := decide_eq_false h0
            clear h0 
            go_wp2_with fail
            go_quiet (fail)
            go_wp2_with fail
            go_roundw
            case rel => exact ⟨k + 1, by omega, by go_num, by rw [HNn.out.2], by rw [HNn.out.1]; exact HO2.out, below_drewN HB2.out _⟩
            case measure => simp [intOf]; omega
          have hb0 : (y2 == x2) = true := beq_iff_eq.2 h0
          have he0 : decide (y2 = x2) = true := decide_eq_true h0
          by_cases h1 : y3 = x3
          rotate_left
          · have HN : Hid (hitM ⟨x0, x1, x2, x3, x4⟩ ⟨y0, y1, y2, y3, y4⟩ = false) := Lib.hid (by unfold hitM; simp [h1])
            have HNn := Lib.hid (HNo.out HN.out)
            have hb1 : (y3 == x3) = false := beq_eq_false_iff_ne.2 h1
            have he1 : decide (y3 = x3) = false := decide_eq_false h1
            clear h1 h0
            go_wp2_with fail
            go_quiet (fail)
            go_wp2_with fail
            go_roundw
            case rel => exact ⟨k + 1, by omega, by go_num, by rw [HNn.out.2], by rw [HNn.out.1]; exact HO2.out, below_drewN HB2.out _⟩
            case measure => simp [intOf]; omega
          have hb1 : (y3 == x3) = true := beq_iff_eq.2 h1
          have he1 : decide (y3 = x3) = true := decide_eq_true h1
          by_cases h2 : y4 = x4
          rotate_left
          · have HN : Hid (hitM ⟨x0, x1, x2, x3, x4⟩ ⟨y0, y1, y2, y3, y4⟩ = false) := Lib.hid (by unfold hitM; simp [h2])
            have HNn := Lib.hid (HNo.out HN.out)
            have hb2 : (y4 == x4) = false := beq_eq_false_iff_ne.2 h2
            have he2 : decide (y4 = x4) = false := decide_eq_false h2
            clear h2 h0 h1
            go_wp2_with fail
            go_quiet (fail)
            go_wp2_with fail
            go_roundw
            case rel => exact ⟨k + 1, by omega, by go_num, by rw [HNn.out.2], by rw [HNn.out.1]; exact HO2.out, below_drewN HB2.out _⟩
            case measure => simp [intOf]; omega
          have hb2 : (y4 == x4) = true := beq_iff_eq.2 h2
          have he2 : decide (y4 = x4) = true := decide_eq_true h2
          by_cases h3 : y1 = x0
          rotate_left
          · have HN : Hid (hitM ⟨x0, x1, x2, x3, x4⟩ ⟨y0, y1, y2, y3, y4⟩ = false) := Lib.hid (by unfold hitM; simp [h3])
            have HNn := Lib.hid (HNo.out HN.out)
            have hb3 : (y1 == x0) = false := beq_eq_false_iff_ne.2 h3
            have he3 : decide (y1 = x0) = false := decide_eq_false h3
            clear h3 h0 h1 h2
            go_wp2_with fail
            go_quiet (fail)
            go_wp2_with fail
            go_roundw
            case rel => exact ⟨k + 1, by omega, by go_num, by rw [HNn.out.2], by rw [HNn.out.1]; exact HO2.out, below_drewN HB2.out _⟩
            case measure => simp [intOf]; omega
          have hb3 : (y1 == x0) = true := beq_iff_eq.2 h3
          have he3 : decide (y1 = x0) = true := decide_eq_true h3
          have HY : Hid (hitM ⟨x0, x1, x2, x3, x4⟩ ⟨y0, y1, y2, y3, y4⟩ = true) := Lib.hid (by unfold hitM; simp [h0, h1, h2, h3])
          have HYy := Lib.hid (HYes.out HY.out)
          clear h0 h1 h2 h3
          go_wp2_with fail
          go_quiet (fail)
          go_wp2_with fail
          go_roundw
          case rel => exact ⟨k + 1, by omega, by go_num, by rw [HYy.out.2], by rw [HYy.out.1]; exact HSet.out, by first | exact below_drewN (HB2.out.trans (below_setCell _ hgb _)) _ | exact (below_drewN HB2.out _).trans (below_setCell _ hgb _)⟩
          case measure => simp [intOf]; omega
        · obtain rfl : k = out.length := by omega
          have hki : ¬ (out.length : Int) < (out.length : Int) := by omega
          rw [mapM_full] at ho
          rw [anyM_full]
          have HOm := Lib.hid ho; have HBm := Lib.hid hb
          clear ho hb
          cases hany : out.any (hitM (at' l i))
          · have HRs : Hid (rStep out (at' l i) = out ++ [at' l i]) := Lib.hid (by unfold rStep; rw [hany]; rfl)
            have hmap : out.map (updM (at' l i)) = out := by
              refine (List.map_congr_left fun p hp => ?_).trans (List.map_id out)
              have : hitM (at' l i) p = false := by
                cases h : hitM (at' l i) p
                · rfl
                · rw [List.any_eq_true.2 ⟨p, hp, h⟩] at hany; cases hany
              unfold updM; rw [this]; rfl
            rw [hmap] at HOm
            obtain ⟨b, off, rfl, hpx⟩ := HI.out.below HBm.out i hlt
            clear hany hmap
            generalize at' l i = x at *
            obtain ⟨x0, x1, x2, x3, x4⟩ := x
            obtain ⟨c0, c1, c2, c3, c4⟩ := hpx
            simp only at c0 c1 c2 c3 c4
            have HS63 : Hid (out.length + 1 ≤ maxLen) := Lib.hid (by unfold maxLen; omega)
            have HSb : Hid ((out.length + 1) * 40 ≤ 140737488355328) := Lib.hid (by omega)
            have HB2 := Lib.hid (HBm.out.alloc HBm.out.size (.cells #[.int .i64 x0, .int .i64 x1, .int .i64 x2, .int .i64 x3, .int .i64 x4] 38))
            have HO2 := Lib.hid (HOm.out.alloc (.cells #[.int .i64 x0, .int .i64 x1, .int .i64 x2, .int .i64 x3, .int .i64 x4] 38))
            have HZ2 := Lib.hid HB2.out.size
            have HNew := Lib.hid (cell_five_new wr (.int .i64 x0) (.int .i64 x1) (.int .i64 x2) (.int .i64 x3) (.int .i64 x4) 38)
            go_wp2_with (at_builtin; refine wpList_append_own_at _ rfl _ _ 22 rfl w.heap.size 38 i0 (.agg #[.int .i64 0, .int .i64 0, .int .i64 0, .int .i64 0, .int .i64 0]) 5 40 Try.underlying22 hi ip0 ip1 ip2 rfl (by decide) _ _ _ rfl HO2.out ⟨wr.heap.size, 0, none⟩ 1 1 [.int .i64 x0, .int .i64 x1, .int .i64 x2, .int .i64 x3, .int .i64 x4] rfl rfl HNew.out (one_cells5 _ _ _ _ _) HS63.out HSb.out HZ2.out ?_; intro v9 w9 hown9 hgrow9 _ hat9; have HB9 := Lib.hid (HB2.out.grown hgrow9 HZ2.out (fun g hg => (owns_block HO2.out hg).1)); have HO9 := Lib.hid hown9; clear hown9 hgrow9 hat9)
            go_roundw
            case rel => exact ⟨i + 1, by omega, by go_num, by rw [HSn.out, HRs.out, List.length_append, encPl_snoc]; exact HO9.out, HB9.out⟩
            case measure => simp [intOf]; omega
          · have HRs : Hid (rStep out (at' l i) = out.map (updM (at' l i))) := Lib.hid (by unfold rStep; rw [hany]; rfl)
            clear hany
            go_wp2_with fail
            go_roundw
            case rel => exact ⟨i + 1, by omega, by go_num, by rw [HSn.out, HRs.out, List.length_map]; exact HOm.out, HBm.out⟩
            case measure => simp [intOf]; omega
    · obtain rfl : i = l.length := by omega
      have hii : ¬ (l.length : Int) < (l.length : Int) := by omega
      have hpl := plSl_of_owns ho
      obtain ⟨va', vc', he, hlc', hin'⟩ := hpl
      simp only [Value.slice.injEq, true_and] at he
      obtain ⟨rfl, rfl⟩ := he
      have HSo := Lib.hid (sorted_any (rRun l l.length) va vc wr hin' (by omega))
      have HBw := Lib.hid hb
      clear ho hb hin'
      go_wp2_with fail
      refine HSo.out.mono ?_; rintro e w5 ⟨⟨v5, rfl, ho5⟩, hb5⟩
      have HP := Lib.hid (HPost.out _ _ _ HBw.out.size ho5); have HB5 := Lib.hid (HBw.out.trans (hb5.mono HBw.out.size))
      clear ho5 hb5
      go_wp2_with fail
      go_ret2
      exact ⟨⟨_, rfl, HP.out⟩, HB5.out⟩
end Go.Proofs.Ytmhneonebjcieaa
