/- The walks of the document's ValidateMoves and Fewest. -/
import Derived.Test.YtgpacajlfclobaaC
import Derived.Test.YtgpacajlfclobaaP3
namespace Go.Proofs.Ytgpacajlfclobaa
open Go.RowKit

theorem isRegister_any (x : Int) (w : World) : Calls Try.prog 27 #[.int .i64 x] w fun e w' => e = .returned (.bool (regB x)) ∧ w = w' := by
  unfold regB
  by_cases h0 : 0 ≤ x
  · have e0 : decide (0 ≤ x) = true := decide_eq_true h0
    rw [e0, Bool.true_and]
    by_cases h1 : x ≤ 30
    · rw [decide_eq_true h1]
      go_enter Try.func27, Try.ntmps27
      go_wp2_with fail
      go_ret
      exact ⟨rfl, rfl⟩
    · rw [decide_eq_false h1]
      go_enter Try.func27, Try.ntmps27
      go_wp2_with fail
      go_ret
      exact ⟨rfl, rfl⟩
  · have e0 : decide (0 ≤ x) = false := decide_eq_false h0
    rw [e0, Bool.false_and]
    go_enter Try.func27, Try.ntmps27
    go_wp2_with fail
    go_ret
    exact ⟨rfl, rfl⟩
theorem dupAt_iff {l : List (Int × Int)} {k : Nat} (hk : k < l.length) : dupAt l k = true ↔ ∃ j, j < k ∧ (l.getD j (0, 0)).1 = (l.getD k (0, 0)).1 := by
  unfold dupAt
  rw [List.any_eq_true]
  constructor
  · rintro ⟨x, hx, e⟩
    obtain ⟨j, hj, rfl⟩ := List.mem_take_iff_getElem.1 hx
    refine ⟨j, by omega, ?_⟩
    rw [List.getD_eq_getElem?_getD, List.getElem?_eq_getElem (by omega)]
    simpa using e
  · rintro ⟨j, hj, e⟩
    refine ⟨l.getD j (0, 0), ?_, by simpa using e⟩
    rw [List.mem_take_iff_getElem]
    refine ⟨j, by omega, ?_⟩
    rw [List.getD_eq_getElem?_getD, List.getElem?_eq_getElem (by omega)]
    rfl

set_option maxRecDepth 100000 in
set_option maxHeartbeats 2000000 in
theorem rValidate_any (l : List (Int × Int)) (a : Option Addr) (cap : Nat) (w : World) (hin : MovesIn w a l) :
    Calls Try.prog 12 #[.slice a l.length cap] w fun e w' => e = .returned (.int .i64 (validM l)) ∧ Below w.heap.size w w' := by
  by_cases h8 : 8 < l.length
  · have hv : validM l = 3 := by unfold validM; rw [if_pos h8]
    have h8i : (8 : Int) < (l.length : Int) := by omega
    rw [hv]
    clear hin hv
    go_enter Try.func12, Try.ntmps12
    go_wp2_with fail
    go_ret
    exact ⟨rfl, Below.refl _ _⟩
  · have h8i : ¬ (8 : Int) < (l.length : Int) := by omega
    have HI := Lib.hid hin
    have HBad : Hid (∀ k, k < l.length → badB (l.getD k (0, 0)) = true → validM l = 1) := Lib.hid fun k hk h => by
      unfold validM
      rw [if_neg h8, if_pos (List.any_eq_true.2 ⟨_, by rw [List.getD_eq_getElem?_getD, List.getElem?_eq_getElem hk]; simp, h⟩)]
    have HOkB : Hid (NoneYet l badB l.length → (∀ k, k < l.length → dupAt l k = true → validM l = 7) ∧ ((∀ k, k < l.length → dupAt l k = false) → validM l = 0)) := Lib.hid fun h => by
      have hb := h.fin
      refine ⟨fun k hk hd => ?_, fun hd => ?_⟩
      · unfold validM
        rw [if_neg h8, hb, if_neg (by simp), if_pos (show dupB l = true from List.any_eq_true.2 ⟨k, by simpa using hk, hd⟩)]
      · have : dupB l = false := by
          unfold dupB
          rw [List.any_eq_false]
          intro k hk
          rw [hd k (by simpa using hk)]
          simp
        unfold validM
        rw [if_neg h8, hb, if_neg (by simp), this, if_neg (by simp)]
    have HDup : Hid (∀ k, k < l.length → (dupAt l k = true ↔ ∃ j, j < k ∧ (l.getD j (0, 0)).1 = (l.getD k (0, 0)).1)) := Lib.hid fun k hk => dupAt_iff hk
    clear hin
    generalize validM l = E at *
    go_enter Try.func12, Try.ntmps12
    go_wp2_with fail
    go_loopw [3] (fun i wr => ∃ k : Nat, k ≤ l.length ∧ i = .int .i64 k ∧ NoneYet l badB k ∧ Below w.heap.size w wr) (fun i _ => l.length - (intOf i).toNat)
    case atStart => exact ⟨0, Nat.zero_le _, rfl, NoneYet.zero, Below.refl _ _⟩
    case round =>
      obtain ⟨k, hk, rfl, hny, hb⟩ := hrel
      by_cases hlt : k < l.length
      · have hki : (k : Int) < (l.length : Int) := by omega
        obtain ⟨b, off, rfl, hc1, hc2⟩ := HI.out.below hb k hlt
        have HB := Lib.hid hb; have HNy := Lib.hid hny
        have HBk := Lib.hid (HBad.out k hlt)
        have HNx := Lib.hid (fun h => hny.next (d := (0, 0)) hlt h)
        clear hb hny
        generalize l.getD k (0, 0) = m at *
        obtain ⟨x, y⟩ := m
        have hc1 : wr.cell? ⟨b, off + k * 2, none⟩ = some (.int .i64 x) := hc1
        have hc2 : wr.cell? ⟨b, off + k * 2 + 1, none⟩ = some (.int .i64 y) := hc2
        have hbx : badB (x, y) = (!(regB x) || !(regB y)) := rfl
        have HBx := Lib.hid hbx
        have H1 := Lib.hid (isRegister_any x); have H2 := Lib.hid (isRegister_any y)
        clear hbx
        generalize regB x = r1 at *
        generalize regB y = r2 at *
        cases r1
        · have hE := HBk.out (by rw [HBx.out]; rfl)
          subst hE
          go_wp2_with fail
          refine (H1.out _).mono ?_; rintro e w2 ⟨rfl, rfl⟩
          go_wp2_with fail
          go_ret
          exact ⟨rfl, HB.out⟩
        · cases r2
          · have hE := HBk.out (by rw [HBx.out]; rfl)
            subst hE
            go_wp2_with fail
            refine (H1.out _).mono ?_; rintro e w2 ⟨rfl, rfl⟩
            go_wp2_with fail
            refine (H2.out _).mono ?_; rintro e w2 ⟨rfl, rfl⟩
            go_wp2_with fail
            go_ret
            exact ⟨rfl, HB.out⟩
          · have HN := Lib.hid (HNx.out (by rw [HBx.out]; rfl))
            go_wp2_with fail
            refine (H1.out _).mono ?_; rintro e w2 ⟨rfl, rfl⟩
            go_wp2_with fail
            refine (H2.out _).mono ?_; rintro e w2 ⟨rfl, rfl⟩
            go_wp2_with fail
            go_roundw
            case rel => exact ⟨k + 1, by omega, by go_num, HN.out, HB.out⟩
            case measure => simp [intOf]; omega
      · obtain rfl : k = l.length := by omega
        obtain ⟨hd1, hd2⟩ := HOkB.out hny
        have HD1 := Lib.hid hd1; have HD2 := Lib.hid hd2; have HB := Lib.hid hb
        clear hd1 hd2 hny hb
        go_wp2_with fail
        go_loopw [4] (fun i wr => ∃ k : Nat, k ≤ l.length ∧ i = .int .i64 k ∧ (∀ j, j < k → dupAt l j = false) ∧ Below w.heap.size w wr) (fun i _ => l.length - (intOf i).toNat)
        case atStart => exact ⟨0, Nat.zero_le _, rfl, fun j hj => absurd hj (Nat.not_lt_zero _), HB.out⟩
        case round =>
          obtain ⟨k, hk, rfl, hny, hb⟩ := hrel
          by_cases hlt : k < l.length
          · have hki : (k : Int) < (l.length : Int) := by omega
            obtain ⟨b, off, rfl, hck, hck2⟩ := HI.out.below hb k hlt
            have HB := Lib.hid hb; have HNy := Lib.hid hny
            have HDk := Lib.hid (HDup.out k hlt); have HD1k := Lib.hid (HD1.out k hlt)
            have HCk := Lib.hid hck
            clear hb hny hck hck2
            go_wp2_with fail
            go_loopw [5] (fun j ws => ∃ m : Nat, m ≤ k ∧ j = .int .i64 m ∧ (∀ i, i < m → (l.getD i (0, 0)).1 ≠ (l.getD k (0, 0)).1) ∧ Below wr.heap.size wr ws) (fun j _ => k - (intOf j).toNat)
            case atStart => exact ⟨0, Nat.zero_le _, rfl, fun j hj => absurd hj (Nat.not_lt_zero _), Below.refl _ _⟩
            case round =>
              obtain ⟨m, hm, rfl, hno, hb⟩ := hrel
              by_cases hmk : m < k
              · have hmi : (m : Int) < (k : Int) := by omega
                have hml : (m : Int) < (l.length : Int) := by omega
                have hBm : Below w.heap.size w wr := HB.out.trans (hb.mono HB.out.size)
                obtain ⟨b2, off2, e2, hcm, hcm2⟩ := HI.out.below hBm m (by omega)
                obtain ⟨rfl, rfl⟩ : b = b2 ∧ off = off2 := by simpa using e2
                have hck := keep HCk.out hb
                have HBm := Lib.hid hBm; have HBr := Lib.hid hb; have HNo := Lib.hid hno
                have HDm := Lib.hid (fun h => HD1k.out (HDk.out.2 ⟨m, hmk, h⟩))
                clear hb hno hBm e2 hcm2
                have HNx : Hid ((l.getD m (0, 0)).1 ≠ (l.getD k (0, 0)).1 → ∀ i, i < m + 1 → (l.getD i (0, 0)).1 ≠ (l.getD k (0, 0)).1) := Lib.hid fun h i hi => by
                  by_cases c : i = m
                  · subst c; exact h
                  · exact HNo.out i (by omega)
                generalize (l.getD m (0, 0)).1 = x at *
                generalize (l.getD k (0, 0)).1 = y at *
                by_cases hxy : x = y
                · subst hxy
                  have hE := HDm.out rfl
                  subst hE
                  have hbb : (x == x) = true := by simp
                  go_wp2_with fail
                  go_quiet (fail)
                  go_wp2_with fail
                  go_ret
                  exact ⟨rfl, HBm.out.trans (below_drewN (Below.refl _ _) _)⟩
                · have hbb : (x == y) = false := by rw [beq_eq_false_iff_ne]; exact hxy
                  have HN2 := Lib.hid (HNx.out hxy)
                  go_wp2_with fail
                  go_quiet (fail)
                  go_wp2_with fail
                  go_roundw
                  case rel => exact ⟨m + 1, by omega, by go_num, HN2.out, HBr.out.trans (below_drewN (Below.refl _ _) _)⟩
                  case measure => simp [intOf]; omega
              · obtain rfl : m = k := by omega
                have HBm : Hid (Below w.heap.size w wr) := Lib.hid (HB.out.trans (hb.mono HB.out.size))
                have HN2 : Hid (dupAt l m = false) := Lib.hid (by
                  rw [← Bool.not_eq_true, HDk.out]
                  rintro ⟨j, hj, e⟩
                  exact hno j hj e)
                clear hno hb
                go_wp2_with fail
                go_roundw
                case rel => exact ⟨m + 1, by omega, by go_num, fun j hj => by
                  by_cases c : j = m
                  · subst c; exact HN2.out
                  · exact HNy.out j (by omega), HBm.out⟩
                case measure => simp [intOf]; omega
          · obtain rfl : k = l.length := by omega
            have hE := HD2.out hny
            subst hE
            have HB := Lib.hid hb
            clear hny hb
            go_wp2_with fail
            go_ret
            exact ⟨rfl, HB.out⟩

def rdUpto (l : List (Nat × Nat)) (r k : Nat) : Nat := ((l.take k).filter fun m => decide (m.2 = r) && decide (m.1 ≠ r)).length
theorem rdUpto_next {l : List (Nat × Nat)} {r k : Nat} (h : k < l.length) : rdUpto l r (k + 1) = rdUpto l r k + if decide ((l.getD k (0, 0)).2 = r) && decide ((l.getD k (0, 0)).1 ≠ r) then 1 else 0 := by
  unfold rdUpto
  have e : l.getD k (0, 0) = l[k] := by rw [List.getD_eq_getElem?_getD, List.getElem?_eq_getElem h]; rfl
  rw [List.take_succ_eq_append_getElem h, List.filter_append, List.length_append, e]
  congr 1
  rw [List.filter_cons]
  split <;> simp_all
theorem rdUpto_all (l : List (Nat × Nat)) (r : Nat) : rdUpto l r l.length = readersN l r := by unfold rdUpto readersN; rw [List.take_length]
theorem rdUpto_le (l : List (Nat × Nat)) (r k : Nat) : rdUpto l r k ≤ k := by
  unfold rdUpto
  exact Nat.le_trans (List.length_filter_le _ _) (by rw [List.length_take]; omega)

set_option maxRecDepth 100000 in
set_option maxHeartbeats 1000000 in
theorem readers_any (l : List (Nat × Nat)) (a : Option Addr) (cap r : Nat) (w : World) (hin : PairsIn w a l) (hl : l.length ≤ 8) :
    Calls Try.prog 21 #[.slice a l.length cap, .int .i64 (r : Nat)] w fun e w' => e = .returned (.int .i64 (readersN l r : Nat)) ∧ Below w.heap.size w w' := by
  have HI := Lib.hid hin
  have HAll := Lib.hid (rdUpto_all l r)
  clear hin
  go_enter Try.func21, Try.ntmps21
  go_wp2_with fail
  go_loopw [5, 6] (fun nv i wr => ∃ k : Nat, k ≤ l.length ∧ i = .int .i64 k ∧ nv = .int .i64 (rdUpto l r k : Nat) ∧ Below w.heap.size w wr) (fun _ i _ => l.length - (intOf i).toNat)
  case atStart => exact ⟨0, Nat.zero_le _, rfl, rfl, Below.refl _ _⟩
  case round =>
    obtain ⟨k, hk, rfl, rfl, hb⟩ := hrel
    by_cases hlt : k < l.length
    · have hki : (k : Int) < (l.length : Int) := by omega
      obtain ⟨b, off, rfl, hc1, hc2⟩ := HI.out.below hb k hlt
      have HB := Lib.hid hb
      have HNx := Lib.hid (rdUpto_next (r := r) hlt)
      have hle := rdUpto_le l r k
      clear hb
      generalize l.getD k (0, 0) = m at *
      obtain ⟨x, y⟩ := m
      have hc1 : wr.cell? ⟨b, off + k * 2, none⟩ = some (.int .i64 (x : Nat)) := hc1
      have hc2 : wr.cell? ⟨b, off + k * 2 + 1, none⟩ = some (.int .i64 (y : Nat)) := hc2
      generalize rdUpto l r k = n at *
      by_cases hy : y = r
      · have hyb : ((y : Int) == (r : Int)) = true := by simp [hy]
        by_cases hx : x = r
        · have hxb : ((x : Int) == (r : Int)) = true := by simp [hx]
          have HN : Hid (rdUpto l r (k + 1) = n) := Lib.hid (by rw [HNx.out]; simp [hx])
          clear hx hy HNx
          go_wp2_with fail
          go_roundw
          case rel => exact ⟨k + 1, by omega, by go_num, by rw [HN.out], HB.out⟩
          case measure => simp [intOf]; omega
        · have hxb : ((x : Int) == (r : Int)) = false := by rw [beq_eq_false_iff_ne]; omega
          have HN : Hid (rdUpto l r (k + 1) = n + 1) := Lib.hid (by rw [HNx.out]; simp [hx, hy])
          clear hx hy HNx
          go_wp2_with fail
          go_roundw
          case rel => exact ⟨k + 1, by omega, by go_num, by rw [HN.out]; go_num, HB.out⟩
          case measure => simp [intOf]; omega
      · have hyb : ((y : Int) == (r : Int)) = false := by rw [beq_eq_false_iff_ne]; omega
        have HN : Hid (rdUpto l r (k + 1) = n) := Lib.hid (by rw [HNx.out]; simp [hy])
        clear hy HNx
        go_wp2_with fail
        go_roundw
        case rel => exact ⟨k + 1, by omega, by go_num, by rw [HN.out], HB.out⟩
        case measure => simp [intOf]; omega
    · obtain rfl : k = l.length := by omega
      rw [HAll.out]
      have HB := Lib.hid hb
      clear hb
      go_wp2_with fail
      go_ret
      exact ⟨rfl, HB.out⟩

/-- What from answers. -/
def fromI (l : List (Nat × Nat)) (r : Nat) : Int := match fromF l r with
  | some x => (x : Nat)
  | none => -1
def hitF (r : Nat) (m : Nat × Nat) : Bool := m.1 == r && m.2 != r
theorem fromI_hit {l : List (Nat × Nat)} {r k : Nat} (hk : k < l.length) (hn : NoneYet l (hitF r) k) (h : hitF r (l.getD k (0, 0)) = true) : fromI l r = ((l.getD k (0, 0)).2 : Nat) := by
  have e : l.getD k (0, 0) = l[k] := by rw [List.getD_eq_getElem?_getD, List.getElem?_eq_getElem hk]; rfl
  have hf : l.find? (hitF r) = some (l.getD k (0, 0)) := by
    have h0 : (l.take k).find? (hitF r) = none := by
      rw [List.find?_eq_none]
      intro x hx
      unfold NoneYet at hn
      rw [List.any_eq_false] at hn
      exact hn x hx
    have h1 : (l.take (k + 1)).find? (hitF r) = some l[k] := by
      rw [List.take_succ_eq_append_getElem hk, List.find?_append, h0]
      rw [e] at h
      simp [h]
    rw [e]
    have h2 : (l.take (k + 1) ++ l.drop (k + 1)).find? (hitF r) = some l[k] := by rw [List.find?_append, h1]; rfl
    rwa [List.take_append_drop] at h2
  have hff : fromF l r = some (l.getD k (0, 0)).2 := by
    unfold fromF
    show (l.find? (hitF r)).map (·.2) = _
    rw [hf]; rfl
  unfold fromI
  rw [hff]
theorem fromI_none {l : List (Nat × Nat)} {r : Nat} (hn : NoneYet l (hitF r) l.length) : fromI l r = -1 := by
  have hff : fromF l r = none := by
    unfold fromF
    show (l.find? (hitF r)).map (·.2) = none
    have h0 : l.find? (hitF r) = none := by
      rw [List.find?_eq_none]
      intro x hx
      have := hn.fin
      rw [List.any_eq_false] at this
      exact this x hx
    rw [h0]; rfl
  unfold fromI
  rw [hff]

set_option maxRecDepth 100000 in
set_option maxHeartbeats 1000000 in
theorem from_any (l : List (Nat × Nat)) (a : Option Addr) (cap r : Nat) (w : World) (hin : PairsIn w a l) (hl : l.length ≤ 8) :
    Calls Try.prog 22 #[.slice a l.length cap, .int .i64 (r : Nat)] w fun e w' => e = .returned (.int .i64 (fromI l r)) ∧ Below w.heap.size w w' := by
  have HI := Lib.hid hin
  have HHit : Hid (∀ k, k < l.length → NoneYet l (hitF r) k → hitF r (l.getD k (0, 0)) = true → fromI l r = ((l.getD k (0, 0)).2 : Nat)) := Lib.hid fun k h1 h2 h3 => fromI_hit h1 h2 h3
  have HNo : Hid (NoneYet l (hitF r) l.length → fromI l r = -1) := Lib.hid fun h => fromI_none h
  clear hin
  generalize fromI l r = F at *
  go_enter Try.func22, Try.ntmps22
  go_wp2_with fail
  go_loopw [5] (fun i wr => ∃ k : Nat, k ≤ l.length ∧ i = .int .i64 k ∧ NoneYet l (hitF r) k ∧ Below w.heap.size w wr) (fun i _ => l.length - (intOf i).toNat)
  case atStart => exact ⟨0, Nat.zero_le _, rfl, NoneYet.zero, Below.refl _ _⟩
  case round =>
    obtain ⟨k, hk, rfl, hny, hb⟩ := hrel
    by_cases hlt : k < l.length
    · have hki : (k : Int) < (l.length : Int) := by omega
      obtain ⟨b, off, rfl, hc1, hc2⟩ := HI.out.below hb k hlt
      have HB := Lib.hid hb
      have HH := Lib.hid (HHit.out k hlt hny)
      have HNx := Lib.hid (fun h => hny.next (d := (0, 0)) hlt h)
      clear hb hny
      generalize l.getD k (0, 0) = m at *
      obtain ⟨x, y⟩ := m
      have hc1 : wr.cell? ⟨b, off + k * 2, none⟩ = some (.int .i64 (x : Nat)) := hc1
      have hc2 : wr.cell? ⟨b, off + k * 2 + 1, none⟩ = some (.int .i64 (y : Nat)) := hc2
      by_cases hx : x = r
      · have hxb : ((x : Int) == (r : Int)) = true := by simp [hx]
        by_cases hy : y = r
        · have hyb : ((y : Int) == (r : Int)) = true := by simp [hy]
          have HN := Lib.hid (HNx.out (by simp [hitF, hy]))
          clear hx hy HNx HH
          go_wp2_with fail
          go_roundw
          case rel => exact ⟨k + 1, by omega, by go_num, HN.out, HB.out⟩
          case measure => simp [intOf]; omega
        · have hyb : ((y : Int) == (r : Int)) = false := by rw [beq_eq_false_iff_ne]; omega
          have hF : F = (y : Nat) := HH.out (by simp [hitF, hx, hy])
          subst hF
          clear hx hy HNx HH
          go_wp2_with fail
          go_ret
          exact ⟨rfl, HB.out⟩
      · have hxb : ((x : Int) == (r : Int)) = false := by rw [beq_eq_false_iff_ne]; omega
        have HN := Lib.hid (HNx.out (by simp [hitF, hx]))
        clear hx HNx HH
        go_wp2_with fail
        go_roundw
        case rel => exact ⟨k + 1, by omega, by go_num, HN.out, HB.out⟩
        case measure => simp [intOf]; omega
    · obtain rfl : k = l.length := by omega
      have hF := HNo.out hny
      subst hF
      have HB := Lib.hid hb
      clear hny hb
      go_wp2_with fail
      go_ret
      exact ⟨rfl, HB.out⟩
end Go.Proofs.Ytgpacajlfclobaa
