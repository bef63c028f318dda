/- The walks of Frame, of the program and of the document. -/
import Derived.Test.YtjfpaelmcepidaaA8
namespace Go.Proofs.Ytjfpaelmcepidaa.PK
open Go.RowKit Go.Sort

set_option maxRecDepth 100000 in
set_option maxHeartbeats 4000000 in
theorem sFrame_any (regs : Int) (ls : List (List Cd)) (bl : Option Addr) (cap : Nat) (w : World) (hl : ls.length ≤ 9223372036854775807) (hlm : ∀ k, k < ls.length → (atB ls k).length ≤ 60) (hll : ls.length ≤ 30) (hin : BlkIn w bl ls) :
    Calls Try.prog 15 #[.agg #[.int .i64 regs, .slice bl ls.length cap]] w (FrPost regs ls w) := by
  have HV := Lib.hid (fun u (h : BlkIn u bl ls) => ValidateW_any regs ls bl cap u h hl (fun k hk => by have := hlm k hk; omega))
  have HI := Lib.hid hin
  have HLm := Lib.hid hlm
  have h0 : (w.alloc (.cells #[.int .i64 regs, .slice bl ls.length cap] 24)).cell? ⟨w.heap.size, 0, none⟩ = some (.int .i64 regs) := by simp [go_sem]
  have h1 : (w.alloc (.cells #[.int .i64 regs, .slice bl ls.length cap] 24)).cell? ⟨w.heap.size, 1, none⟩ = some (.slice bl ls.length cap) := by simp [go_sem]
  have HB0 : Hid (Below w.heap.size w (w.alloc (.cells #[.int .i64 regs, .slice bl ls.length cap] 24))) := Lib.hid ((Below.refl _ _).alloc (Nat.le_refl _) _)
  have HLen := Lib.hid (frmO_len hlm)
  clear hin hlm
  by_cases hv : progErrW regs ls = 0
  rotate_left
  · have HP : Hid (∀ w', Below w.heap.size w w' → FrPost regs ls w (.returned (.tuple #[.slice none 0 0, .int .i64 (progErrW regs ls)])) w') := Lib.hid fun w' h => ⟨by rw [if_neg hv], h⟩
    have hne : (progErrW regs ls != 0) = true := bne_iff_ne.2 hv
    generalize progErrW regs ls = pe at *
    clear hv
    go_enter Try.func15, Try.ntmps15
    go_upto_region 1 with (fail)
    generalize w.alloc (.cells #[.int .i64 regs, .slice bl ls.length cap] 24) = w0 at *
    go_wp2_with fail
    refine (HV.out _ (HI.out.below HB0.out)).mono ?_; rintro e w1 ⟨rfl, hb1⟩
    have HF := Lib.hid (HP.out _ (HB0.out.trans (hb1.mono HB0.out.size)))
    clear hb1 h0 h1
    go_wp2_with fail
    go_ret2
    exact HF.out
  have HP : Hid (∀ w' a c l, IsFrm ls l → l.length ≤ 1000000 → IntsIn w' a l → Below w.heap.size w w' → FrPost regs ls w (.returned (.tuple #[.slice a l.length c, .int .i64 0])) w') := Lib.hid fun w' a c l h1 h2 h3 h4 => ⟨by rw [if_pos hv]; exact ⟨a, c, l, rfl, h1, h2, h3⟩, h4⟩
  rw [hv] at HV
  obtain ⟨i0, hi, hz0, hz1, hz2⟩ := info_parts Try.infoInt
  generalize FrPost regs ls w = PP at *
  clear hv
  go_enter Try.func15, Try.ntmps15
  go_upto_region 1 with (fail)
  generalize w.alloc (.cells #[.int .i64 regs, .slice bl ls.length cap] 24) = w0 at *
  go_wp2_with fail
  refine (HV.out _ (HI.out.below HB0.out)).mono ?_; rintro e wo ⟨rfl, hb1⟩
  have HB1 := Lib.hid (HB0.out.trans (hb1.mono HB0.out.size))
  have k0 := keep h0 hb1; have k1 := keep h1 hb1
  have HI1 := Lib.hid (HI.out.below HB1.out)
  clear hb1 h0 h1
  go_wp2_with fail
  go_loopw [5, 18] (fun v i wq => ∃ b : Nat, b ≤ ls.length ∧ i = .int .i64 b ∧ wq.ownsRow wo.heap.size 3 1 v (frmO ls b 0).length (encI (frmO ls b 0)) ∧ Below wo.heap.size wo wq) (fun _ i _ => ls.length - (intOf i).toNat)
  case atStart => exact ⟨0, Nat.zero_le _, rfl, by rw [frmO_start]; exact owns_nil _ _ _ _, Below.refl _ _⟩
  case round =>
    obtain ⟨b, hb, rfl, ho, hbq⟩ := hrel
    have HO := Lib.hid ho; have HBq := Lib.hid hbq
    by_cases hlt : b < ls.length
    rotate_left
    · obtain rfl : b = ls.length := by omega
      have hlen : (frmO ls ls.length 0).length ≤ 2000 := by
        have := HLen.out ls.length (Nat.le_refl _)
        unfold frmO
        rw [List.length_append, List.take_zero]
        have : ls.length * 60 ≤ 30 * 60 := Nat.mul_le_mul_right _ hll
        simp only [frmL, List.length_nil]; omega
      have HSo := Lib.hid (sortI_any _ ho (by omega))
      have HCo := Lib.hid (fun v u h => compact_any wo.heap.size v (sortL (frmO ls ls.length 0)) u h (by rw [(sortL_facts _).2.2]; omega))
      have HFr := Lib.hid (frm_compact ls)
      have HCl : Hid ((Lib.compact (sortL (frmO ls ls.length 0))).length ≤ 1000000) := Lib.hid (by have := Lib.compact_length_le (sortL (frmO ls ls.length 0)); rw [(sortL_facts _).2.2] at this; omega)
      have HSl : Hid ((sortL (frmO ls ls.length 0)).length = (frmO ls ls.length 0).length) := Lib.hid (sortL_facts _).2.2
      have HWB : Hid (w.heap.size ≤ wo.heap.size) := Lib.hid HB1.out.size
      have HGb : Hid (∀ g, Value.ownBlock u5 = some g → wo.heap.size ≤ g) := Lib.hid fun g hg => (owns_block HO.out hg).1
      clear ho hbq hlen
      go_wp2_with fail
      refine HSo.out.mono ?_; rintro e w5 ⟨rfl, ho5, hg5⟩
      have HB5 : Hid (Below wo.heap.size wo w5) := Lib.hid (HBq.out.grown hg5 HBq.out.size HGb.out)
      have HO5 : Hid (w5.ownsRow wo.heap.size 3 1 u5 (sortL (frmO ls ls.length 0)).length (encI (sortL (frmO ls ls.length 0)))) := Lib.hid (by rw [HSl.out]; exact ho5)
      clear ho5 hg5
      go_wp2_with fail
      refine (HCo.out _ _ HO5.out).mono ?_; rintro e w6 ⟨⟨v', rfl, ho6⟩, hb6⟩
      obtain ⟨a, c, rfl, _, hints⟩ := ints_of_owns ho6
      have HF := Lib.hid (HP.out _ a c _ HFr.out HCl.out hints (HB1.out.trans ((HB5.out.trans (hb6)).mono HWB.out)))
      clear ho6 hb6 hints
      go_wp2_with fail
      exact HF.out
    have hbi : (b : Int) < (ls.length : Int) := by omega
    have hlb := HLm.out b hlt
    obtain ⟨cb, coff, ca, cc, hbe, hcell0, hcds⟩ := HI1.out b hlt
    have hcell := keep hcell0 hbq
    have HCds := Lib.hid hcds
    have HTurn := Lib.hid (frmO_turn hlt)
    have hlo := HLen.out b (by omega)
    have hlo2 : b * 60 ≤ 30 * 60 := Nat.mul_le_mul_right _ (by omega)
    subst hbe
    clear ho hbq hcell0 hcds
    go_wp2_with fail
    clear hcell
    go_loopw [5, 24] (fun v i wq => ∃ k : Nat, k ≤ (atB ls b).length ∧ i = .int .i64 k ∧ wq.ownsRow wo.heap.size 3 1 v (frmO ls b k).length (encI (frmO ls b k)) ∧ Below wo.heap.size wo wq) (fun _ i _ => (atB ls b).length - (intOf i).toNat)
    case atStart => exact ⟨0, Nat.zero_le _, rfl, HO.out, HBq.out⟩
    case round =>
      obtain ⟨i, hk, rfl, ho2, hbq2⟩ := hrel
      by_cases hil : i < (atB ls b).length
      rotate_left
      · obtain hie : i = (atB ls b).length := by omega
        rw [hie, HTurn.out] at ho2
        have HO2 := Lib.hid ho2; have HBq2 := Lib.hid hbq2
        subst hie
        clear ho2 hbq2
        go_wp2_with fail
        go_roundw
        case rel => exact ⟨b + 1, by omega, by go_num, HO2.out, HBq2.out⟩
        case measure => simp [intOf]; omega
      have hii : (i : Int) < ((atB ls b).length : Int) := by omega
      obtain ⟨xb, xoff, hxe, hx⟩ := HCds.out i hil
      have hx' : CdAt wr xb (xoff + i * 6) (atC (atB ls b) i) := hx.keep hbq2
      have HSkip := Lib.hid (frmO_skip hil)
      have HPut := Lib.hid (frmO_put hil)
      have hfl : (frmO ls b i).length ≤ 3000 := by
        unfold frmO
        rw [List.length_append]
        have h1 := frmL_len ((atB ls b).take i)
        have h2 : ((atB ls b).take i).length ≤ i := List.length_take_le _ _
        omega
      have HO2 := Lib.hid ho2; have HBq2 := Lib.hid hbq2
      subst hxe
      generalize atC (atB ls b) i = x at *
      generalize (atB ls b).length = m at *
      clear ho2 hbq2 hx
      obtain ⟨x0, x1, x2, x3, x4, x5⟩ := hx'
      go_upto_region 11 with (fail)
      have HOx := Lib.hid (HO2.out.alloc (.cells #[.int .i64 x.op, .int .i64 x.d, .int .i64 x.a, .int .i64 x.b, .int .u32 x.im, .int .i64 x.to] 68))
      have HBx : Hid (Below wo.heap.size wo (wr.alloc (.cells #[.int .i64 x.op, .int .i64 x.d, .int .i64 x.a, .int .i64 x.b, .int .u32 x.im, .int .i64 x.to] 68))) := Lib.hid (HBq2.out.alloc HBq2.out.size _)
      have hX := cdAt_new wr x 68
      clear x0 x1 x2 x3 x4 x5
      generalize wr.alloc (.cells #[.int .i64 x.op, .int .i64 x.d, .int .i64 x.a, .int .i64 x.b, .int .u32 x.im, .int .i64 x.to] 68) = wx at *
      generalize wr.heap.size = q at *
      obtain ⟨x0, x1, x2, x3, x4, x5⟩ := hX
      simp only [Nat.zero_add] at x1 x2 x3 x4 x5
      by_cases h1 : x.op < 18
      · have HK := Lib.hid (HSkip.out (by unfold frmB; simp; omega))
        clear HSkip HPut
        go_wp2_with fail
        go_roundw
        case rel => exact ⟨i + 1, by omega, by go_num, by rw [HK.out]; exact HOx.out, HBx.out⟩
        case measure => simp [intOf]; omega
      by_cases h2 : 23 < x.op
      · have HK := Lib.hid (HSkip.out (by unfold frmB; simp; omega))
        clear HSkip HPut
        go_wp2_with fail
        go_roundw
        case rel => exact ⟨i + 1, by omega, by go_num, by rw [HK.out]; exact HOx.out, HBx.out⟩
        case measure => simp [intOf]; omega
      by_cases h3 : ¬ x.a = -1
      · have g3 : (x.a != -1) = true := by simp [h3]
        have HK := Lib.hid (HSkip.out (by unfold frmB; simp [h3]))
        clear HSkip HPut
        go_wp2_with fail
        go_roundw
        case rel => exact ⟨i + 1, by omega, by go_num, by rw [HK.out]; exact HOx.out, HBx.out⟩
        case measure => simp [intOf]; omega
      have h3 : x.a = -1 := Classical.byContradiction h3
      have g3 : (x.a != -1) = false := by simp [h3]
      by_cases h4 : (x.im : Int) < 1024
      · have HK := Lib.hid (HSkip.out (by unfold frmB; simp; omega))
        clear HSkip HPut
        go_wp2_with fail
        go_roundw
        case rel => exact ⟨i + 1, by omega, by go_num, by rw [HK.out]; exact HOx.out, HBx.out⟩
        case measure => simp [intOf]; omega
      by_cases h5 : 1824 ≤ (x.im : Int)
      · have HK := Lib.hid (HSkip.out (by unfold frmB; simp; omega))
        clear HSkip HPut
        go_wp2_with fail
        go_roundw
        case rel => exact ⟨i + 1, by omega, by go_num, by rw [HK.out]; exact HOx.out, HBx.out⟩
        case measure => simp [intOf]; omega
      obtain ⟨rr, hrr⟩ : ∃ rr : Nat, ((x.im : Int) - 1024) % 4 = (rr : Int) := ⟨(x.im - 1024) % 4, by omega⟩
      obtain ⟨qq, hqq⟩ : ∃ qq : Nat, ((x.im : Int) - 1024) / 4 = (qq : Int) := ⟨(x.im - 1024) / 4, by omega⟩
      by_cases h6 : rr = 0
      rotate_left
      · have g6 : ((rr : Int) != 0) = true := by simp [h6]
        have HK := Lib.hid (HSkip.out (by unfold frmB; simp; omega))
        clear HSkip HPut
        go_wp2_with fail
        go_roundw
        case rel => exact ⟨i + 1, by omega, by go_num, by rw [HK.out]; exact HOx.out, HBx.out⟩
        case measure => simp [intOf]; omega
      have g6 : ((rr : Int) != 0) = false := by simp [h6]
      have HK := Lib.hid (HPut.out (by unfold frmB; simp; omega))
      have HQ : Hid (frmI x = (qq : Int)) := Lib.hid (by unfold frmI; omega)
      obtain ⟨a0, c0, rfl⟩ := owns_shape HOx.out
      have hzx := HBx.out.size
      clear HSkip HPut h6
      go_wp2_with (at_builtin; refine wpList_append_own _ rfl _ _ 43 rfl wo.heap.size 3 i0 (.int .i64 0) 1 8 Try.underlying43 hi hz0 hz1 hz2 rfl (by decide) _ _ _ rfl (HOx.out.alloc _) ⟨wx.heap.size, 0, none⟩ 1 1 [.int .i64 (qq : Int)] rfl rfl (cell_one_at _ _ _) (one_int _) (by unfold maxLen; omega) (by omega) (by simp; omega) ?_; intro v' w5 hown5 hgrow _)
      have HO5 : Hid (w5.ownsRow wo.heap.size 3 1 v' (frmO ls b (i + 1)).length (encI (frmO ls b (i + 1)))) := Lib.hid (by rw [HK.out, HQ.out, encI_snoc]; simpa using hown5)
      have HB5 : Hid (Below wo.heap.size wo w5) := Lib.hid ((HBx.out.alloc HBx.out.size _).grown hgrow (by have := HBx.out.size; simp; omega) (fun g hg => (owns_block HOx.out hg).1))
      clear hown5 hgrow
      go_roundw
      case rel => exact ⟨i + 1, by omega, by go_num, HO5.out, HB5.out⟩
      case measure => simp [intOf]; omega
/-- Whether an instruction uses place k. -/
def hitF (k : Nat) (x : Cd) : Bool := frmB x && decide (frmI x = k)
theorem hitF_is {k : Nat} (hk : k < 200) (x : Cd) : hitF k x = (decide (18 ≤ x.op) && decide (x.op ≤ 23) && decide (x.a = -1) && decide ((x.im : Int) = 1024 + 4 * k)) := by
  unfold hitF frmB frmI
  by_cases h : 1024 ≤ x.im ∧ x.im < 1824 ∧ (x.im - 1024) % 4 = 0 ∧ (((x.im - 1024) / 4 : Nat) : Int) = k
  · have : (x.im : Int) = 1024 + 4 * k := by omega
    rw [decide_eq_true h.1, decide_eq_true h.2.1, decide_eq_true h.2.2.1, decide_eq_true h.2.2.2, decide_eq_true this]; simp
  · have h2 : ¬ (x.im : Int) = 1024 + 4 * k := by omega
    rw [decide_eq_false h2, Bool.and_false]
    by_cases a : 1024 ≤ x.im
    · by_cases b : x.im < 1824
      · by_cases c : (x.im - 1024) % 4 = 0
        · have d : ¬ (((x.im - 1024) / 4 : Nat) : Int) = k := fun d => h ⟨a, b, c, d⟩
          rw [decide_eq_false d, Bool.and_false]
        · rw [decide_eq_false c]; simp
      · rw [decide_eq_false b]; simp
    · rw [decide_eq_false a]; simp
/-- Whether place k has been used ahead of instruction i of block b. -/
def useF (ls : List (List Cd)) (k b i : Nat) : Bool := (ls.take b).any (fun l => l.any (hitF k)) || ((atB ls b).take i).any (hitF k)
theorem useF_start (ls : List (List Cd)) (k : Nat) : useF ls k 0 0 = false := by simp [useF]
theorem useF_turn {ls : List (List Cd)} {k b : Nat} (h : b < ls.length) : useF ls k b (atB ls b).length = useF ls k (b + 1) 0 := by
  unfold useF
  rw [List.take_length, List.take_succ_eq_append_getElem h, List.any_append, ← atB_get h]
  simp
theorem useF_next {ls : List (List Cd)} {k b i : Nat} (h : i < (atB ls b).length) : useF ls k b (i + 1) = (useF ls k b i || hitF k (atC (atB ls b) i)) := by
  unfold useF
  rw [take_one h, List.any_append, Bool.or_assoc]
  simp
theorem useF_fin {ls : List (List Cd)} {k : Nat} : useF ls k ls.length 0 = true ↔ FrmIn ls k := by
  unfold useF FrmIn hitF
  rw [List.take_length]
  simp
  constructor
  · rintro ⟨l, hl, x, hx, h1, h2⟩; exact ⟨l, hl, x, hx, h1, h2.symm⟩
  · rintro ⟨l, hl, x, hx, h1, h2⟩; exact ⟨l, hl, x, hx, h1, h2.symm⟩
/-- The places below k. -/
structure UptoF (ls : List (List Cd)) (k : Int) (l : List Int) : Prop where
  sorted : l.Pairwise (· < ·)
  mem : ∀ j, j ∈ l ↔ FrmIn ls j ∧ j < k
theorem FrmIn.rng {ls : List (List Cd)} {k : Int} (h : FrmIn ls k) : 0 ≤ k ∧ k < 200 := by
  obtain ⟨_, _, x, _, h, rfl⟩ := h
  exact frmI_in h
theorem UptoF.start (ls : List (List Cd)) : UptoF ls 0 [] := ⟨List.Pairwise.nil, fun j => ⟨fun h => (by cases h), fun ⟨h, h1⟩ => (by have := h.rng; omega)⟩⟩
theorem UptoF.skip {ls : List (List Cd)} {k : Int} {l : List Int} (h : UptoF ls k l) (hn : ¬ FrmIn ls k) : UptoF ls (k + 1) l := ⟨h.sorted, fun j => (h.mem j).trans ⟨fun ⟨h1, h2⟩ => ⟨h1, by omega⟩, fun ⟨h1, h2⟩ => ⟨h1, by
  by_cases e : j = k
  · subst e; exact absurd h1 hn
  · omega⟩⟩⟩
theorem UptoF.put {ls : List (List Cd)} {k : Int} {l : List Int} (h : UptoF ls k l) (hn : FrmIn ls k) : UptoF ls (k + 1) (l ++ [k]) := by
  refine ⟨List.pairwise_append.2 ⟨h.sorted, List.pairwise_singleton _ _, fun p hp q hq => ?_⟩, fun j => ?_⟩
  · obtain rfl : q = k := by simpa using hq
    exact ((h.mem p).1 hp).2
  · rw [List.mem_append, List.mem_singleton, h.mem]
    constructor
    · rintro (⟨h1, h2⟩ | rfl)
      · exact ⟨h1, by omega⟩
      · exact ⟨hn, by omega⟩
    · rintro ⟨h1, h2⟩
      by_cases e : j = k
      · exact .inr e
      · exact .inl ⟨h1, by omega⟩
theorem UptoF.fin {ls : List (List Cd)} {l : List Int} (h : UptoF ls 200 l) : IsFrm ls l := ⟨h.sorted, fun k => (h.mem k).trans ⟨fun h => h.1, fun h => ⟨h, h.rng.2⟩⟩⟩
theorem UptoF.few {ls : List (List Cd)} {k : Int} {l : List Int} (h : UptoF ls k l) : l.length ≤ 1000 := by
  have hn : l.Nodup := h.sorted.imp fun h => by omega
  have := nodup_le hn (N := allI) fun p hp => allI_mem p (by
    have h1 := ((h.mem p).1 hp).1.rng
    unfold KV; omega)
  rwa [allI_thousand] at this
set_option maxRecDepth 100000 in
set_option maxHeartbeats 4000000 in
theorem rFrame_any (regs : Int) (ls : List (List Cd)) (bl : Option Addr) (cap : Nat) (w : World) (hl : ls.length ≤ 9223372036854775807) (hlm : ∀ k, k < ls.length → (atB ls k).length ≤ 60) (hll : ls.length ≤ 30) (him : ∀ k i, (atC (atB ls k) i).im < 4294967296) (hin : BlkIn w bl ls) :
    Calls Try.prog 16 #[.agg #[.int .i64 regs, .slice bl ls.length cap]] w (FrPost regs ls w) := by
  have HV := Lib.hid (fun u (h : BlkIn u bl ls) => rValidateW_any regs ls bl cap u h (by omega) (fun k hk => by have := hlm k hk; omega))
  have HI := Lib.hid hin
  have HLm := Lib.hid hlm
  have HIm := Lib.hid him
  have h0 : (w.alloc (.cells #[.int .i64 regs, .slice bl ls.length cap] 24)).cell? ⟨w.heap.size, 0, none⟩ = some (.int .i64 regs) := by simp [go_sem]
  have h1 : (w.alloc (.cells #[.int .i64 regs, .slice bl ls.length cap] 24)).cell? ⟨w.heap.size, 1, none⟩ = some (.slice bl ls.length cap) := by simp [go_sem]
  have HB0 : Hid (Below w.heap.size w (w.alloc (.cells #[.int .i64 regs, .slice bl ls.length cap] 24))) := Lib.hid ((Below.refl _ _).alloc (Nat.le_refl _) _)
  clear hin hlm him
  by_cases hv : progErrW regs ls = 0
  rotate_left
  · have HP : Hid (∀ w', Below w.heap.size w w' → FrPost regs ls w (.returned (.tuple #[.slice none 0 0, .int .i64 (progErrW regs ls)])) w') := Lib.hid fun w' h => ⟨by rw [if_neg hv], h⟩
    have hne : (progErrW regs ls != 0) = true := bne_iff_ne.2 hv
    generalize progErrW regs ls = pe at *
    clear hv
    go_enter Try.func16, Try.ntmps16
    go_upto_region 1 with (fail)
    generalize w.alloc (.cells #[.int .i64 regs, .slice bl ls.length cap] 24) = w0 at *
    go_wp2_with fail
    refine (HV.out _ (HI.out.below HB0.out)).mono ?_; rintro e w1 ⟨rfl, hb1⟩
    have HF := Lib.hid (HP.out _ (HB0.out.trans (hb1.mono HB0.out.size)))
    clear hb1 h0 h1
    go_wp2_with fail
    go_ret2
    exact HF.out
  have HP : Hid (∀ w' a c l, IsFrm ls l → l.length ≤ 1000000 → IntsIn w' a l → Below w.heap.size w w' → FrPost regs ls w (.returned (.tuple #[.slice a l.length c, .int .i64 0])) w') := Lib.hid fun w' a c l h1 h2 h3 h4 => ⟨by rw [if_pos hv]; exact ⟨a, c, l, rfl, h1, h2, h3⟩, h4⟩
  rw [hv] at HV
  obtain ⟨i0, hi, hz0, hz1, hz2⟩ := info_parts Try.infoInt
  generalize FrPost regs ls w = PP at *
  clear hv
  go_enter Try.func16, Try.ntmps16
  go_upto_region 1 with (fail)
  generalize w.alloc (.cells #[.int .i64 regs, .slice bl ls.length cap] 24) = w0 at *
  go_wp2_with fail
  refine (HV.out _ (HI.out.below HB0.out)).mono ?_; rintro e wo ⟨rfl, hb1⟩
  have HB1 := Lib.hid (HB0.out.trans (hb1.mono HB0.out.size))
  have k0 := keep h0 hb1; have k1 := keep h1 hb1
  have HI1 := Lib.hid (HI.out.below HB1.out)
  clear hb1 h0 h1
  go_wp2_with fail
  go_loopw [5, 6] (fun v i wq => ∃ (k : Nat) (l : List Int), k ≤ 200 ∧ i = .int .i64 k ∧ UptoF ls k l ∧ wq.ownsRow wo.heap.size 3 1 v l.length (encI l) ∧ Below wo.heap.size wo wq) (fun _ i _ => 200 - (intOf i).toNat)
  case atStart => exact ⟨0, [], Nat.zero_le _, rfl, UptoF.start ls, owns_nil _ _ _ _, Below.refl _ _⟩
  case round =>
    obtain ⟨k, l, hk, rfl, hup, ho, hbq⟩ := hrel
    have HO := Lib.hid ho; have HBq := Lib.hid hbq; have HUp := Lib.hid hup
    have hfew := hup.few
    clear hup ho hbq
    by_cases hlt : k < 200
    rotate_left
    · obtain rfl : k = 200 := by omega
      obtain ⟨a, c, rfl, _, hints⟩ := ints_of_owns HO.out
      have HWB : Hid (w.heap.size ≤ wo.heap.size) := Lib.hid HB1.out.size
      have HF := Lib.hid (HP.out _ a c _ HUp.out.fin (by omega) hints (HB1.out.trans (HBq.out.mono HWB.out)))
      clear hints
      go_wp2_with fail
      exact HF.out
    have hki : (k : Int) < 200 := by omega
    go_wp2_with fail
    go_loopw [7, 8] (fun v i wq => ∃ b : Nat, b ≤ ls.length ∧ i = .int .i64 b ∧ v = .bool (useF ls k b 0) ∧ Below wr.heap.size wr wq) (fun _ i _ => ls.length - (intOf i).toNat)
    case atStart => exact ⟨0, Nat.zero_le _, rfl, by rw [useF_start], Below.refl _ _⟩
    case round =>
      obtain ⟨b, hb, rfl, rfl, hb5⟩ := hrel
      have HB5 := Lib.hid hb5
      have p1 := keep k1 (HBq.out.trans (hb5.mono HBq.out.size))
      by_cases hblt : b < ls.length
      rotate_left
      · obtain rfl : b = ls.length := by omega
        have HO6 := Lib.hid (owns_below HO.out hb5)
        have HB6 := Lib.hid (HBq.out.trans (hb5.mono HBq.out.size))
        have HFi := Lib.hid (useF_fin (ls := ls) (k := k))
        clear hb5
        cases hu : useF ls k ls.length 0
        · have HUp2 := Lib.hid (HUp.out.skip (fun h => by have := HFi.out.2 h; rw [hu] at this; cases this))
          clear HFi hu
          go_wp2_with fail
          go_roundw
          case rel => exact ⟨k + 1, l, by omega, by go_num, HUp2.out, HO6.out, HB6.out⟩
          case measure => simp [intOf]; omega
        · have HUp2 := Lib.hid (HUp.out.put (HFi.out.1 hu))
          obtain ⟨a0, c0, rfl⟩ := owns_shape HO6.out
          clear HFi hu
          go_wp2_with (at_builtin; refine wpList_append_own _ rfl _ _ 43 rfl wo.heap.size 3 i0 (.int .i64 0) 1 8 Try.underlying43 hi hz0 hz1 hz2 rfl (by decide) _ _ _ rfl (HO6.out.alloc _) ⟨wr.heap.size, 0, none⟩ 1 1 [.int .i64 (k : Int)] rfl rfl (cell_one_at _ _ _) (one_int _) (by unfold maxLen; omega) (by omega) (by have := HB6.out.size; simp; omega) ?_; intro v' w5 hown5 hgrow _)
          have HO7 : Hid (w5.ownsRow wo.heap.size 3 1 v' (l ++ [(k : Int)]).length (encI (l ++ [(k : Int)]))) := Lib.hid (by rw [encI_snoc]; simpa using hown5)
          have HB7 : Hid (Below wo.heap.size wo w5) := Lib.hid ((HB6.out.alloc HB6.out.size _).grown hgrow (by have := HB6.out.size; simp; omega) (fun g hg => (owns_block HO6.out hg).1))
          clear hown5 hgrow
          go_roundw
          case rel => exact ⟨k + 1, _, by omega, by go_num, HUp2.out, HO7.out, HB7.out⟩
          case measure => simp [intOf]; omega
      have hbi : (b : Int) < (ls.length : Int) := by omega
      have hlb := HLm.out b hblt
      obtain ⟨wm, hwm⟩ : ∃ wm : World, wm = wr := ⟨_, rfl⟩
      have HWm := Lib.hid hwm
      have HTurn := Lib.hid (useF_turn (k := k) hblt)
      obtain ⟨cb, coff, ca, cc, hbe, hcell0, hcds⟩ := HI1.out b hblt
      have HCell0 := Lib.hid hcell0; have HCds := Lib.hid hcds
      subst hbe
      clear hb5 hcell0 hcds hwm
      go_wp2_with fail
      go_loopw [7, 9] (fun v i wq => ∃ j : Nat, j ≤ (atB ls b).length ∧ i = .int .i64 j ∧ v = .bool (useF ls k b j) ∧ Below wm.heap.size wm wq) (fun _ i _ => (atB ls b).length - (intOf i).toNat)
      case atStart => exact ⟨0, Nat.zero_le _, rfl, rfl, by rw [HWm.out]; exact Below.refl _ _⟩
      case round =>
        obtain ⟨j, hj, rfl, rfl, hbj⟩ := hrel
        have hB5 := HB5.out
        rw [← HWm.out] at hB5
        have HBj := Lib.hid (hB5.trans (hbj.mono hB5.size))
        have HBw := Lib.hid (HBq.out.trans (HBj.out.mono HBq.out.size))
        by_cases hjl : j < (atB ls b).length
        rotate_left
        · obtain hje : j = (atB ls b).length := by omega
          have HT2 : Hid (useF ls k b j = useF ls k (b + 1) 0) := Lib.hid (by rw [hje]; exact HTurn.out)
          have p2 := keep k1 HBw.out; have pc := keep HCell0.out HBw.out
          have hji : ¬ (j : Int) < ((atB ls b).length : Int) := by omega
          clear hbj hB5 hje
          go_wp2_with fail
          go_roundw
          case rel => exact ⟨b + 1, by omega, by go_num, by rw [HT2.out], HBj.out⟩
          case measure => simp [intOf]; omega
        have hji : (j : Int) < ((atB ls b).length : Int) := by omega
        have p2 := keep k1 HBw.out; have pc := keep HCell0.out HBw.out
        obtain ⟨xb, xoff, hxe, hx⟩ := HCds.out j hjl
        have hx' : CdAt wr xb (xoff + j * 6) (atC (atB ls b) j) := hx.keep HBw.out
        have HN := Lib.hid (useF_next (k := k) hjl)
        have HHit := Lib.hid (hitF_is hlt (atC (atB ls b) j))
        have HBj2 := Lib.hid hbj
        have him := HIm.out b j
        subst hxe
        generalize atC (atB ls b) j = x at *
        generalize (atB ls b).length = m at *
        clear hbj hB5 hx
        obtain ⟨x0, x1, x2, x3, x4, x5⟩ := hx'
        go_upto_region 16 with (fail)
        have HBx : Hid (Below wm.heap.size wm (wr.alloc (.cells #[.int .i64 x.op, .int .i64 x.d, .int .i64 x.a, .int .i64 x.b, .int .u32 x.im, .int .i64 x.to] 68))) := Lib.hid (HBj2.out.alloc HBj2.out.size _)
        have hX := cdAt_new wr x 68
        clear x0 x1 x2 x3 x4 x5 p1 p2 pc
        generalize wr.alloc (.cells #[.int .i64 x.op, .int .i64 x.d, .int .i64 x.a, .int .i64 x.b, .int .u32 x.im, .int .i64 x.to] 68) = wx at *
        generalize wr.heap.size = q at *
        obtain ⟨x0, x1, x2, x3, x4, x5⟩ := hX
        simp only [Nat.zero_add] at x1 x2 x3 x4 x5
        have him2 : (x.im : Int) < 4294967296 := by omega
        clear him
        by_cases h1 : 18 ≤ x.op
        rotate_left
        · have HK : Hid (useF ls k b (j + 1) = useF ls k b j) := Lib.hid (by rw [HN.out, HHit.out, decide_eq_false h1]; simp)
          go_wp2_with fail
          go_roundw
          case rel => exact ⟨j + 1, by omega, by go_num, by rw [HK.out], HBx.out⟩
          case measure => simp [intOf]; omega
        by_cases h2 : x.op ≤ 23
        rotate_left
        · have HK : Hid (useF ls k b (j + 1) = useF ls k b j) := Lib.hid (by rw [HN.out, HHit.out, decide_eq_false h2]; simp)
          go_wp2_with fail
          go_roundw
          case rel => exact ⟨j + 1, by omega, by go_num, by rw [HK.out], HBx.out⟩
          case measure => simp [intOf]; omega
        by_cases h3 : x.a = -1
        rotate_left
        · have g3 : (x.a == -1) = false := by simp [h3]
          have HK : Hid (useF ls k b (j + 1) = useF ls k b j) := Lib.hid (by rw [HN.out, HHit.out, decide_eq_false h3]; simp)
          go_wp2_with fail
          go_roundw
          case rel => exact ⟨j + 1, by omega, by go_num, by rw [HK.out], HBx.out⟩
          case measure => simp [intOf]; omega
        have g3 : (x.a == -1) = true := by simp [h3]
        obtain ⟨z, hz⟩ : ∃ z : Nat, 1024 + 4 * (k : Int) = (z : Int) := ⟨1024 + 4 * k, by omega⟩
        have HZ := Lib.hid hz
        by_cases h4 : (x.im : Int) = 1024 + 4 * k
        rotate_left
        · have g4 : (x.im == z) = false := by rw [beq_eq_false_iff_ne]; omega
          have g5 : ((x.im : Int) == (z : Int)) = false := by rw [beq_eq_false_iff_ne]; omega
          have HK : Hid (useF ls k b (j + 1) = useF ls k b j) := Lib.hid (by rw [HN.out, HHit.out, decide_eq_false h4]; simp)
          go_wp2_with fail
          go_roundw
          case rel => exact ⟨j + 1, by omega, by go_num, by rw [HK.out], HBx.out⟩
          case measure => simp [intOf]; omega
        have g4 : (x.im == z) = true := by rw [beq_iff_eq]; omega
        have g5 : ((x.im : Int) == (z : Int)) = true := by rw [beq_iff_eq]; omega
        have HK : Hid (useF ls k b (j + 1) = true) := Lib.hid (by rw [HN.out, HHit.out, decide_eq_true h1, decide_eq_true h2, decide_eq_true h3, decide_eq_true h4]; simp)
        clear h4
        go_wp2_with fail
        go_roundw
        case rel => exact ⟨j + 1, by omega, by go_num, by rw [HK.out], HBx.out⟩
        case measure => simp [intOf]; omega
end Go.Proofs.Ytjfpaelmcepidaa.PK
