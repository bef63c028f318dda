/- The walk of Decode of the document. -/
import Derived.Test.YtmhneonebjcieaaWB
import Derived.Test.YtmhneonebjcieaaP5
import Derived.Laws.BytesArg
namespace Go.Proofs.Ytmhneonebjcieaa
open Go.RowKit

def encI (xs : List Nat) : List Value := xs.map fun x => .int .i64 (x : Nat)
theorem encI_len (xs : List Nat) : (encI xs).length = xs.length := by simp [encI]
theorem encI_snoc (xs : List Nat) (x : Nat) : encI (xs ++ [x]) = encI xs ++ [.int .i64 (x : Nat)] := by simp [encI]
theorem one_int {k : Int} : ∀ u ∈ [Value.int .i64 k], u.oneCell' = true := by simp [Value.oneCell']
/-- The bounds of what is read. -/
structure RB (s : RS) (k : Nat) : Prop where
  at7 : ∃ j, j ≤ 6 ∧ s.at' = 7 * j ∧ s.n < 128 ^ j
  len : s.ns.length ≤ k
  big : ∀ x ∈ s.ns, x < 4398046511104
theorem RB.start : RB startR 0 := ⟨⟨0, by omega, rfl, by decide⟩, Nat.le_refl _, fun x hx => by cases hx⟩
theorem pow_seven (j : Nat) : 2 ^ (7 * j) = 128 ^ j := by rw [Nat.pow_mul]
theorem pow_le (j : Nat) (h : j ≤ 5) : 128 ^ j ≤ 34359738368 := by
  have : j = 0 ∨ j = 1 ∨ j = 2 ∨ j = 3 ∨ j = 4 ∨ j = 5 := by omega
  rcases this with rfl | rfl | rfl | rfl | rfl | rfl <;> decide
theorem RB.bound {s : RS} {k : Nat} (h : RB s k) (h40 : ¬ 40 < s.at') (x : Nat) : s.n + x % 128 * 2 ^ s.at' < 4398046511104 ∧ s.n < 34359738368 ∧ x % 128 * 2 ^ s.at' < 4398046511104 := by
  obtain ⟨j, hj, ha, hn⟩ := h.at7
  have hj5 : j ≤ 5 := by omega
  have hp := pow_le j hj5
  rw [ha, pow_seven]
  have h1 : x % 128 * 128 ^ j ≤ 127 * 128 ^ j := Nat.mul_le_mul_right _ (by omega)
  omega
theorem RB.step {s t : RS} {k x : Nat} (h : RB s k) (hs : stepR s x = some t) : RB t (k + 1) := by
  obtain ⟨j, hj, ha, hn⟩ := h.at7
  unfold stepR at hs
  split at hs
  · cases hs
  · rename_i h40
    have hb := h.bound h40 x
    split at hs
    · simp only [Option.some.injEq] at hs
      subst hs
      refine ⟨⟨0, by omega, rfl, Nat.zero_lt_one⟩, by have := h.len; simp; omega, fun y hy => ?_⟩
      rcases List.mem_append.1 hy with hy | hy
      · exact h.big y hy
      · rw [List.mem_singleton] at hy; rw [hy]; exact hb.1
    · simp only [Option.some.injEq] at hs
      subst hs
      refine ⟨⟨j + 1, by omega, by show s.at' + 7 = _; omega, ?_⟩, by have := h.len; show s.ns.length ≤ k + 1; omega, h.big⟩
      show s.n + x % 128 * 2 ^ s.at' < 128 ^ (j + 1)
      rw [ha, pow_seven, Nat.pow_succ]
      have h1 : x % 128 * 128 ^ j ≤ 127 * 128 ^ j := Nat.mul_le_mul_right _ (by omega)
      omega
theorem runR_take {b : List Nat} {k : Nat} (hk : k < b.length) : runR (some startR) (b.take (k + 1)) = (runR (some startR) (b.take k)).bind (stepR · (b.getD k 0)) := by
  rw [List.take_succ_eq_append_getElem hk, runR_snoc, List.getD_eq_getElem?_getD, List.getElem?_eq_getElem hk]; rfl
theorem refR_stop {b : List Nat} {k : Nat} {s : RS} (hk : k < b.length) (hr : runR (some startR) (b.take k) = some s) (h40 : 40 < s.at') : refR b = none := by
  have h1 : runR (some startR) (b.take (k + 1)) = none := by
    rw [runR_take hk, hr]
    show stepR s _ = none
    unfold stepR
    rw [if_pos h40]
  have h2 : runR (some startR) b = none := by
    rw [← List.take_append_drop (k + 1) b, runR_append, h1, runR_none]
  unfold refR
  rw [h2]
theorem sum_shift {n c t : Nat} (h1 : n + c * 2 ^ t < 4398046511104) : wrap64 ((n : Int) + wrap64 ((c : Int) * 2 ^ t)) = ((n + c * 2 ^ t : Nat) : Int) := by
  have e : (c : Int) * 2 ^ t = ((c * 2 ^ t : Nat) : Int) := by simp
  rw [e, wrap64_in (n := ((c * 2 ^ t : Nat) : Int)) (by omega) (by omega), wrap64_in (by omega) (by omega)]
  omega
theorem nats_of_owns {w : World} {base : Nat} {e : TypeId} {v : Value} {xs : List Nat} (h : w.ownsRow base e 1 v xs.length (encI xs)) (hne : xs ≠ []) : ∃ g cap, v = .slice (some ⟨g, 0, none⟩) xs.length cap ∧ xs.length ≤ cap ∧ cap ≤ maxLen ∧ g < w.heap.size ∧ ∀ k, k < xs.length → w.cell? ⟨g, k, none⟩ = some (.int .i64 (xs.getD k 0 : Nat)) := by
  obtain ⟨_, ⟨_, h0⟩ | ⟨g, cap, cur, rfl, hb, hg, hnc, hm, hcs, ht⟩⟩ := h
  · exact absurd (List.length_eq_zero_iff.1 h0) hne
  · refine ⟨g, cap, rfl, hnc, hm, lt_of_block hg, fun k hk => ?_⟩
    rw [cell_of_row w g k _ _ _ hg]
    have : (encI xs)[k]? = some (.int .i64 (xs.getD k 0 : Nat)) := by
      simp [encI, List.getElem?_eq_getElem hk, List.getD_eq_getElem?_getD]
    rw [← ht, List.getElem?_take, if_pos (by omega)] at this
    simpa using this
theorem owns_base {w : World} {B B' : Nat} {e : TypeId} {s n : Nat} {v : Value} {xs : List Value} (h : w.ownsRow B e s v n xs) (hb : B' ≤ B) : w.ownsRow B' e s v n xs := by
  refine ⟨h.1, ?_⟩
  rcases h.2 with h1 | ⟨g, cap, cur, e, hg, r⟩
  · exact .inl h1
  · exact .inr ⟨g, cap, cur, e, Nat.le_trans hb hg, r⟩
theorem refR_bad {b : List Nat} {s : RS} (hr : runR (some startR) b = some s) (h : okNs s = false) : refR b = none := by
  unfold refR
  rw [hr]
  simp [h]
theorem refR_go {b : List Nat} {s : RS} (hr : runR (some startR) b = some s) (h : okNs s = true) : refR b = if decide (valE (mkK s.ns (s.ns.getD 0 0)).1 = 0) && decide (encB (mkK s.ns (s.ns.getD 0 0)).1 = b) then some (mkK s.ns (s.ns.getD 0 0)).1 else none := by
  unfold refR
  rw [hr]
  simp only [h, Bool.true_and]

theorem getD_big {S : List Nat} (h : ∀ x ∈ S, x < 4398046511104) (k : Nat) : S.getD k 0 < 4398046511104 := by
  rw [List.getD_eq_getElem?_getD]
  cases hk : S[k]? with
  | none => simp
  | some x => exact h x (List.mem_of_getElem? hk)
theorem mkK_from {S : List Nat} (h : ∀ x ∈ S, x < 4398046511104) : ∀ k, 0 ≤ (mkK S k).2 ∧ (mkK S k).2 ≤ (k : Int) * 4398046511104
  | 0 => ⟨Int.le_refl _, by show (0 : Int) ≤ _; omega⟩
  | k + 1 => by
    have ih := mkK_from h k
    have := getD_big h (1 + 5 * k)
    have e : (mkK S (k + 1)).2 = (mkK S k).2 + (S.getD (1 + 5 * k) 0 : Nat) := rfl
    rw [e]
    omega
/-- The string of bytes. -/
def strN (b : List Nat) : ByteArray := strOfNums (b.map fun (x : Nat) => (x : Int))
theorem conv_bytes {w : World} {g off cap : Nat} {b : List Nat} (h : BytesIn w (some ⟨g, off, none⟩) b) : (convert 25 9 (.slice (some ⟨g, off, none⟩) b.length cap)).run Try.prog w = .ok (.string (strN b)) w :=
  run_convert_bytes_arg w 25 5 Try.underlying25 Try.underlying5 g off b.length cap (b.map fun (x : Nat) => (x : Int)) (by simp) (fun i hi => by
    obtain ⟨b', off', e, hc⟩ := h i hi
    simp only [Option.some.injEq, Addr.mk.injEq, and_true] at e
    obtain ⟨rfl, rfl⟩ := e
    rw [hc]
    simp [List.getD_eq_getElem?_getD, List.getElem?_eq_getElem hi]) 9 Try.underlying9
theorem byteL_inj : ∀ {a b : List Nat}, (∀ x ∈ a, x < 256) → (∀ x ∈ b, x < 256) → (a.map fun x => UInt8.ofNat x) = (b.map fun x => UInt8.ofNat x) → a = b
  | [], [], _, _, _ => rfl
  | [], _ :: _, _, _, h => by simp at h
  | _ :: _, [], _, _, h => by simp at h
  | x :: a, y :: b, ha, hb, h => by
    simp only [List.map_cons, List.cons.injEq] at h
    have hx := ha x (by simp)
    have hy := hb y (by simp)
    have e : x = y := by
      have := congrArg UInt8.toNat h.1
      rw [UInt8.toNat_ofNat', UInt8.toNat_ofNat'] at this
      omega
    rw [e, byteL_inj (fun z hz => ha z (by simp [hz])) (fun z hz => hb z (by simp [hz])) h.2]
theorem strN_data (b : List Nat) : (strN b).data.toList = b.map fun x => UInt8.ofNat x := by
  unfold strN
  rw [strOfNums_data, List.map_map]
  apply List.map_congr_left
  intro x _
  simp
theorem strN_ne {a b : List Nat} (ha : ∀ x ∈ a, x < 256) (hb : ∀ x ∈ b, x < 256) (h : ¬ a = b) : ((strN a).toList == (strN b).toList) = false := by
  rw [beq_eq_false_iff_ne]
  intro e
  apply h
  apply byteL_inj ha hb
  rw [← strN_data, ← strN_data, ← ByteArray.toList_eq, ← ByteArray.toList_eq, e]
theorem encPost_form {L : List Pl} {B : Nat} {v : Value} {w : World} (hE : valE L = 0) (h : EncPost L B v w) : ∃ g2 c2, v = .slice (some ⟨g2, 0, none⟩) (encB L).length c2 ∧ BytesIn w (some ⟨g2, 0, none⟩) (encB L) := by
  unfold EncPost at h
  rw [if_pos hE] at h
  obtain ⟨b, _, ho⟩ := h
  obtain ⟨a, c, rfl, _, hin⟩ := byteSl_of_owns ho
  have hpos : 0 < (encB L).length := by
    unfold encB
    rw [List.length_append]
    have := List.length_pos_iff.2 (grp_ne L.length)
    omega
  rcases ho.2 with ⟨_, h0⟩ | ⟨g, cap, cur, e, _⟩
  · omega
  · simp only [Value.slice.injEq] at e
    obtain ⟨rfl, _, rfl⟩ := e
    exact ⟨g, c, rfl, hin⟩
theorem encB_byte {l : List Pl} (h : Table l) : ∀ x ∈ encB l, x < 256 := by
  intro x hx
  rcases List.mem_append.1 hx with hx | hx
  · exact grp_byte 5 l.length (by have := h.len; omega) x hx
  · obtain ⟨n, hn, hx⟩ := List.mem_flatMap.1 hx
    exact grp_byte 5 n (by have := numsP_le 0 (fun p hp => h.mem hp) (Int.le_refl _) n hn; omega) x hx
set_option maxRecDepth 100000 in
set_option maxHeartbeats 4000000 in
theorem rDecode_any (b : List Nat) (a : Option Addr) (cap : Nat) (w : World) (hin : BytesIn w a b) (hl : b.length ≤ 4000) (hby : ∀ x ∈ b, x < 256) :
    Calls Try.prog 19 #[.slice a b.length cap] w fun e w' => (∃ v c, e = .returned (.tuple #[v, .int .i64 c]) ∧ DecPost b w.heap.size v c w') ∧ Below w.heap.size w w' := by
  have HI := Lib.hid hin; clear hin
  have HBy := Lib.hid hby
  have HNone : Hid (refR b = none → ∀ w', DecPost b w.heap.size (.slice none 0 0) 2 w') := Lib.hid fun h w' => by
    rw [refR_eq hby] at h; unfold DecPost; rw [h]; exact ⟨rfl, rfl⟩
  have HSome : Hid (∀ l, refR b = some l → ∀ v w', w'.ownsRow w.heap.size 38 5 v l.length (encPl l) → DecPost b w.heap.size v 0 w') := Lib.hid fun l h v w' ho => by
    rw [refR_eq hby] at h; unfold DecPost; rw [h]; exact ⟨rfl, _, Nat.le_refl _, ho⟩
  clear hby
  obtain ⟨i0, hi, ip0, ip1, ip2⟩ := info_parts Try.infoInt
  obtain ⟨j0, hj, jp0, jp1, jp2⟩ := info_parts Try.infoPlace
  go_enter Try.func19, Try.ntmps19
  go_wp2_with fail
  go_loopw [4, 5, 6, 7] (fun v n t i wr => ∃ (k : Nat) (s : RS), k ≤ b.length ∧ i = .int .i64 k ∧ n = .int .i64 (s.n : Nat) ∧ t = .int .i64 (s.at' : Nat) ∧ runR (some startR) (b.take k) = some s ∧ RB s k ∧ wr.ownsRow w.heap.size 3 1 v s.ns.length (encI s.ns) ∧ Below w.heap.size w wr) (fun _ _ _ i _ => b.length - (intOf i).toNat)
  case atStart => exact ⟨0, startR, Nat.zero_le _, rfl, rfl, rfl, rfl, RB.start, ⟨rfl, .inl ⟨rfl, rfl⟩⟩, Below.refl _ _⟩
  case round =>
    obtain ⟨k, s, hk, rfl, rfl, rfl, hr, hrb, ho, hb⟩ := hrel
    have HR := Lib.hid hr; have HRB := Lib.hid hrb; have HO := Lib.hid ho; have HB := Lib.hid hb
    clear hr ho hb
    by_cases hlt : k < b.length
    · have hki : (k : Int) < (b.length : Int) := by omega
      by_cases h40 : 40 < s.at'
      · have h40i : (40 : Int) < (s.at' : Int) := by omega
        have HD := Lib.hid (HNone.out (refR_stop hlt HR.out h40))
        clear hrb
        go_wp2_with fail
        go_ret2
        exact ⟨⟨_, _, rfl, HD.out _⟩, HB.out⟩
      · have h40i : ¬ (40 : Int) < (s.at' : Int) := by omega
        obtain ⟨bb, off, rfl, hc⟩ := HI.out.below HB.out k hlt
        have hv := byte_at HBy.out hlt
        have hbd := hrb.bound h40 (b.getD k 0)
        have HT := Lib.hid (runR_take hlt)
        rw [HR.out] at HT
        have HNx : Hid (∀ t, stepR s (b.getD k 0) = some t → RB t (k + 1)) := Lib.hid fun t => hrb.step
        have hnl := hrb.len
        have HO := HO
        clear hrb
        generalize b.getD k 0 = x at *
        obtain ⟨S, n, t⟩ := s
        simp only at h40 h40i hbd hnl
        have HS : Hid (stepR ⟨S, n, t⟩ x = if x < 128 then some ⟨S ++ [n + x % 128 * 2 ^ t], 0, 0⟩ else some ⟨S, n + x % 128 * 2 ^ t, t + 7⟩) := Lib.hid (by unfold stepR; rw [if_neg h40])
        obtain ⟨c, hcx⟩ : ∃ c, x % 128 = c := ⟨_, rfl⟩
        have hmod : (x : Int) % 128 = (c : Int) := by omega
        rw [hcx] at HS hbd
        have HBd := Lib.hid hbd
        have HC := Lib.hid hcx
        have hc8 : (c : Int) < 128 := by omega
        have ht40 : (t : Int) ≤ 40 := by omega
        have HSum := Lib.hid (sum_shift hbd.1)
        have hS63 : S.length + 1 ≤ maxLen := by unfold maxLen; omega
        have hSb : (S.length + 1) * 8 ≤ 140737488355328 := by omega
        have HS63 := Lib.hid hS63; have HSb := Lib.hid hSb
        have HBw : Hid (∀ o, w.heap.size ≤ (wr.alloc o).heap.size) := Lib.hid fun o => by have := HB.out.size; simp; omega
        clear hcx hbd hS63 hSb
        by_cases hx : x < 128
        · have hxi : (x : Int) < 128 := by omega
          rw [if_pos hx] at HS
          go_wp2_with (at_builtin; refine wpList_append_own_at _ rfl _ _ 43 rfl w.heap.size 3 i0 (.int .i64 0) 1 8 Try.underlying43 hi ip0 ip1 ip2 rfl (by decide) _ _ _ rfl (HO.out.alloc _) ⟨wr.heap.size, 0, none⟩ 1 1 [.int .i64 (wrap64 ((n : Int) + wrap64 ((c : Int) * 2 ^ t)))] rfl rfl (cell_one_new _ _ _) one_int HS63.out HSb.out (HBw.out _) ?_; intro v' w4 hown4 hgrow4 _ _; have HB4 := Lib.hid ((HB.out.alloc HB.out.size _).grown hgrow4 (HBw.out _) (fun g hg => (owns_block HO.out hg).1)); rw [HSum.out, ← encI_snoc, show S.length + 1 = (S ++ [n + c * 2 ^ t]).length by simp] at hown4; have HO4 := Lib.hid hown4; clear hown4 hgrow4)
          go_roundw
          case rel => exact ⟨k + 1, ⟨S ++ [n + c * 2 ^ t], 0, 0⟩, by omega, by go_num, rfl, rfl, by rw [HT.out]; exact HS.out, HNx.out _ HS.out, HO4.out, HB4.out⟩
          case measure => simp [intOf]; omega
        · have hxi : ¬ (x : Int) < 128 := by omega
          rw [if_neg hx] at HS
          go_wp2_with fail
          go_roundw
          case rel => exact ⟨k + 1, ⟨S, n + c * 2 ^ t, t + 7⟩, by omega, by go_num, by rw [HSum.out], by go_num, by rw [HT.out]; exact HS.out, HNx.out _ HS.out, HO.out, HB.out⟩
          case measure => simp [intOf]; omega
    · obtain rfl : k = b.length := by omega
      have hki : ¬ (b.length : Int) < (b.length : Int) := by omega
      rw [List.take_length] at HR
      have HBad : Hid (okNs s = false → ∀ w', DecPost b w.heap.size (.slice none 0 0) 2 w') := Lib.hid fun h => HNone.out (refR_bad HR.out h)
      obtain ⟨S, n, t⟩ := s
      have hok : okNs ⟨S, n, t⟩ = (decide (t = 0) && (decide (S ≠ []) && (decide (S.getD 0 0 ≤ 64) && decide (S.length = 1 + 5 * S.getD 0 0)))) := rfl
      have hnl := hrb.len
      have hbig := hrb.big
      simp only at hnl hbig
      have HBig := Lib.hid hbig
      clear hrb hbig
      by_cases ht : t = 0
      rotate_left
      · have hti : (0 : Int) < (t : Int) := by omega
        have HD := Lib.hid (HBad.out (by rw [hok, decide_eq_false ht]; rfl))
        clear hok
        go_wp2_with fail
        go_ret2
        exact ⟨⟨_, _, rfl, HD.out _⟩, HB.out⟩
      have hti : ¬ (0 : Int) < (t : Int) := by omega
      by_cases hS : S = []
      · have HD := Lib.hid (HBad.out (by rw [hok, hS]; simp))
        obtain ⟨va, vc, rfl⟩ := owns_shape HO.out
        have hlen : S.length = 0 := by rw [hS]; rfl
        rw [hlen]
        clear hok hS
        go_wp2_with fail
        go_ret2
        exact ⟨⟨_, _, rfl, HD.out _⟩, HB.out⟩
      obtain ⟨g, vc, rfl, hvc, hvm, hg, hcells⟩ := nats_of_owns HO.out hS
      replace hvc : S.length ≤ vc := hvc
      replace hcells : ∀ k, k < S.length → wr.cell? ⟨g, k, none⟩ = some (.int .i64 (S.getD k 0 : Nat)) := hcells
      have hS0 : 0 < S.length := List.length_pos_iff.2 hS
      have hSi : ¬ (S.length : Int) = 0 := by omega
      have hSb : ((S.length : Int) == 0) = false := beq_eq_false_iff_ne.2 hSi
      have hSp : (0 : Int) < (S.length : Int) := by omega
      have c0 := hcells 0 hS0
      have hb0 := HBig.out (S.getD 0 0) (by rw [List.getD_eq_getElem?_getD, List.getElem?_eq_getElem hS0]; exact List.getElem_mem hS0)
      have HCells := Lib.hid hcells
      have HSne := Lib.hid hS
      clear hcells hS
      generalize hn0 : S.getD 0 0 = n0 at *
      have HN0 := Lib.hid hn0; clear hn0
      have HB0 := Lib.hid hb0; clear hb0
      by_cases h64 : n0 ≤ 64
      rotate_left
      · have h64i : (64 : Int) < (n0 : Int) := by omega
        have HD := Lib.hid (HBad.out (by rw [hok, decide_eq_false h64]; simp))
        clear hok
        go_wp2_with fail
        go_ret2
        exact ⟨⟨_, _, rfl, HD.out _⟩, HB.out⟩
      have h64i : ¬ (64 : Int) < (n0 : Int) := by omega
      by_cases hlen : S.length = 1 + 5 * n0
      rotate_left
      · have hli : ((S.length : Int) != 1 + 5 * (n0 : Int)) = true := by rw [bne_iff_ne]; omega
        have hlj : ¬ (S.length : Int) = 1 + 5 * (n0 : Int) := by omega
        have HD := Lib.hid (HBad.out (by rw [hok, decide_eq_false hlen]; simp))
        clear hok
        go_wp2_with fail
        go_ret2
        exact ⟨⟨_, _, rfl, HD.out _⟩, HB.out⟩
      have hli : ((S.length : Int) != 1 + 5 * (n0 : Int)) = false := by rw [bne_eq_false_iff_eq]; omega
      have hlj : (S.length : Int) = 1 + 5 * (n0 : Int) := by omega
      have HLj := Lib.hid hlj
      have HGo := Lib.hid (refR_go HR.out (by rw [hok, decide_eq_true ht, decide_eq_true h64, decide_eq_true hlen, decide_eq_true HSne.out]; rfl))
      clear hok HBad
      have hvc5 : 1 + 5 * n0 ≤ vc := by omega
      rw [hlen]
      have HLen := Lib.hid hlen
      clear hlen hvc hS0 hSi hSb hSp hli hlj
      have hsp : (0 : Int) < 1 + 5 * (n0 : Int) := by omega
      have hspn : 0 < 1 + 5 * n0 := by omega
      have hli : (((1 + 5 * n0 : Nat) : Int) != 1 + 5 * (n0 : Int)) = false := by rw [bne_eq_false_iff_eq]; omega
      have hl0 : (((1 + 5 * n0 : Nat) : Int) == 0) = false := by rw [beq_eq_false_iff_ne]; omega
      go_wp2_with fail
      obtain ⟨wo, rfl⟩ : ∃ wo : World, wo = wr := ⟨_, rfl⟩
      go_loopw [8, 9, 10] (fun v f i ws => ∃ k : Nat, k ≤ n0 ∧ i = .int .i64 k ∧ f = .int .i64 (mkK S k).2 ∧ ws.ownsRow wo.heap.size 38 5 v k (encPl (mkK S k).1) ∧ (mkK S k).1.length = k ∧ Below wo.heap.size wo ws) (fun _ _ i _ => n0 - (intOf i).toNat)
      case atStart => exact ⟨0, Nat.zero_le _, rfl, rfl, ⟨rfl, .inl ⟨rfl, rfl⟩⟩, rfl, Below.refl _ _⟩
      case round =>
        obtain ⟨k, hk, rfl, rfl, ho2, hml, hb2⟩ := hrel
        have HO2 := Lib.hid ho2; have HB2 := Lib.hid hb2; have HMl := Lib.hid hml
        have d0 := keep c0 hb2
        by_cases hlt : k < n0
        · have hki : (k : Int) < (n0 : Int) := by omega
          have e0 := keep (HCells.out (1 + 5 * k) (by rw [HLen.out]; omega)) hb2
          have e1 := keep (HCells.out (1 + 5 * k + 1) (by rw [HLen.out]; omega)) hb2
          have e2 := keep (HCells.out (1 + 5 * k + 2) (by rw [HLen.out]; omega)) hb2
          have e3 := keep (HCells.out (1 + 5 * k + 3) (by rw [HLen.out]; omega)) hb2
          have e4 := keep (HCells.out (1 + 5 * k + 4) (by rw [HLen.out]; omega)) hb2
          have hcp : (1 : Int) + 5 * (k : Int) < vc := by omega
          have hcp2 : 1 + 5 * k < vc := by omega
          have hcp3 : ¬ 1 + 5 * k = vc := by omega
          have hfr := mkK_from HBig.out k
          have hx0 := getD_big HBig.out (1 + 5 * k)
          have hx1 := getD_big HBig.out (1 + 5 * k + 1)
          have hw1 : IntKind.i64.wrap ((mkK S k).2 + (S.getD (1 + 5 * k) 0 : Nat)) = (mkK S k).2 + (S.getD (1 + 5 * k) 0 : Nat) := IntWalk.i64_in _ (by omega)
          have hw2 : IntKind.i64.wrap ((mkK S k).2 + (S.getD (1 + 5 * k) 0 : Nat) + (S.getD (1 + 5 * k + 1) 0 : Nat)) = (mkK S k).2 + (S.getD (1 + 5 * k) 0 : Nat) + (S.getD (1 + 5 * k + 1) 0 : Nat) := IntWalk.i64_in _ (by omega)
          have HM1 : Hid ((mkK S (k + 1)).1 = (mkK S k).1 ++ [⟨(mkK S k).2 + (S.getD (1 + 5 * k) 0 : Nat), (mkK S k).2 + (S.getD (1 + 5 * k) 0 : Nat) + (S.getD (1 + 5 * k + 1) 0 : Nat), (S.getD (1 + 5 * k + 2) 0 : Nat), (S.getD (1 + 5 * k + 3) 0 : Nat), (S.getD (1 + 5 * k + 4) 0 : Nat)⟩]) := Lib.hid rfl
          have HM2 : Hid ((mkK S (k + 1)).2 = (mkK S k).2 + (S.getD (1 + 5 * k) 0 : Nat)) := Lib.hid rfl
          generalize S.getD (1 + 5 * k) 0 = x0 at *
          generalize S.getD (1 + 5 * k + 1) 0 = x1 at *
          generalize S.getD (1 + 5 * k + 2) 0 = x2 at *
          generalize S.getD (1 + 5 * k + 3) 0 = x3 at *
          generalize S.getD (1 + 5 * k + 4) 0 = x4 at *
          generalize (mkK S k).2 = fk at *
          generalize (mkK S k).1 = L at *
          have hL63 : k + 1 ≤ maxLen := by unfold maxLen; omega
          have hLb : (k + 1) * 40 ≤ 140737488355328 := by omega
          have HL63 := Lib.hid hL63; have HLb := Lib.hid hLb
          have hk0 : (0 : Int) ≤ (k : Int) := by omega
          clear ho2 hb2 hml hfr hx0 hx1 hL63 hLb HGo
          go_wp2_with fail
          obtain ⟨M, hM, hM5⟩ : ∃ M : Nat, 1 + 5 * n0 - (1 + 5 * k) = M ∧ 5 ≤ M := ⟨_, rfl, by omega⟩
          rw [hM]
          have m0 : (0 : Int) < (M : Int) := by omega
          have m1 : (1 : Int) < (M : Int) := by omega
          have m2 : (2 : Int) < (M : Int) := by omega
          have m3 : (3 : Int) < (M : Int) := by omega
          have m4 : (4 : Int) < (M : Int) := by omega
          have n5 : 0 < M ∧ 1 < M ∧ 2 < M ∧ 3 < M ∧ 4 < M := by omega
          obtain ⟨q0, q1, q2, q3, q4⟩ := n5
          clear hM
          have hbx : BoxAt ((wr.alloc (.cells #[(.int .i64 (fk + (x0 : Nat))), (.int .i64 (fk + (x0 : Nat) + (x1 : Nat))), (.int .i64 ((x2 : Nat))), (.int .i64 ((x3 : Nat))), (.int .i64 ((x4 : Nat)))] 38)).drew) wr.heap.size (fk + (x0 : Nat)) (fk + (x0 : Nat) + (x1 : Nat)) ((x2 : Nat)) ((x3 : Nat)) ((x4 : Nat)) := ⟨heap_at wr _ _ rfl⟩
          have HX := Lib.hid hbx
          have HO3 := Lib.hid (owns_of_block (w' := (wr.alloc (.cells #[(.int .i64 (fk + (x0 : Nat))), (.int .i64 (fk + (x0 : Nat) + (x1 : Nat))), (.int .i64 ((x2 : Nat))), (.int .i64 ((x3 : Nat))), (.int .i64 ((x4 : Nat)))] 38)).drew) (HO2.out.alloc (.cells #[(.int .i64 (fk + (x0 : Nat))), (.int .i64 (fk + (x0 : Nat) + (x1 : Nat))), (.int .i64 ((x2 : Nat))), (.int .i64 ((x3 : Nat))), (.int .i64 ((x4 : Nat)))] 38)) fun _ _ _ _ => rfl)
          have HB3 := Lib.hid ((HB2.out.alloc HB2.out.size (.cells #[(.int .i64 (fk + (x0 : Nat))), (.int .i64 (fk + (x0 : Nat) + (x1 : Nat))), (.int .i64 ((x2 : Nat))), (.int .i64 ((x3 : Nat))), (.int .i64 ((x4 : Nat)))] 38)).drew)
          have HQ := Lib.hid (own_ne HO2.out)
          have hq2 : wr.heap.size < ((wr.alloc (.cells #[(.int .i64 (fk + (x0 : Nat))), (.int .i64 (fk + (x0 : Nat) + (x1 : Nat))), (.int .i64 ((x2 : Nat))), (.int .i64 ((x3 : Nat))), (.int .i64 ((x4 : Nat)))] 38)).drew).heap.size := by simp
          have hwo2 := HB3.out.size
          have z0 := World.new_ne wr _ e0
          have z1 := World.new_ne wr _ e1
          have z2 := World.new_ne wr _ e2
          have z3 := World.new_ne wr _ e3
          have z4 := World.new_ne wr _ e4
          clear hbx
          go_region_held3 (fun w' => w'.cell? ⟨g, 1 + 5 * k, none⟩ = some (.int .i64 (x0 : Nat)) ∧ w'.cell? ⟨g, 1 + 5 * k + 1, none⟩ = some (.int .i64 (x1 : Nat)) ∧ w'.cell? ⟨g, 1 + 5 * k + 2, none⟩ = some (.int .i64 (x2 : Nat)) ∧ w'.cell? ⟨g, 1 + 5 * k + 3, none⟩ = some (.int .i64 (x3 : Nat)) ∧ w'.cell? ⟨g, 1 + 5 * k + 4, none⟩ = some (.int .i64 (x4 : Nat))) (go_keep) (fail)
          clear z0 z1 z2 z3 z4 e0 e1 e2 e3 e4 d0 HO2 HB2
          generalize (wr.alloc (.cells #[(.int .i64 (fk + (x0 : Nat))), (.int .i64 (fk + (x0 : Nat) + (x1 : Nat))), (.int .i64 ((x2 : Nat))), (.int .i64 ((x3 : Nat))), (.int .i64 ((x4 : Nat)))] 38)).drew = w2 at *
          generalize wr.heap.size = q at *
          have k0 := HX.out.c0
          have k1 := HX.out.c1
          have k2 := HX.out.c2
          have k3 := HX.out.c3
          have k4 := HX.out.c4
          have HNew : Hid (∀ j u, ([(.int .i64 (fk + (x0 : Nat))), (.int .i64 (fk + (x0 : Nat) + (x1 : Nat))), (.int .i64 ((x2 : Nat))), (.int .i64 ((x3 : Nat))), (.int .i64 ((x4 : Nat)))] : List Value)[j]? = some u → (w2.alloc (.cells #[(.int .i64 (fk + (x0 : Nat))), (.int .i64 (fk + (x0 : Nat) + (x1 : Nat))), (.int .i64 ((x2 : Nat))), (.int .i64 ((x3 : Nat))), (.int .i64 ((x4 : Nat)))] 38)).cell? ((⟨w2.heap.size, 0, none⟩ : Addr).add j) = some u) := Lib.hid fun j u h => cell_five_new w2 _ _ _ _ _ 38 j u h
          have HBs : Hid (wo.heap.size ≤ (w2.alloc (.cells #[(.int .i64 (fk + (x0 : Nat))), (.int .i64 (fk + (x0 : Nat) + (x1 : Nat))), (.int .i64 ((x2 : Nat))), (.int .i64 ((x3 : Nat))), (.int .i64 ((x4 : Nat)))] 38)).heap.size) := Lib.hid (by simp; omega)
          have HBc : Hid ((w2.alloc (.cells #[(.int .i64 (fk + (x0 : Nat))), (.int .i64 (fk + (x0 : Nat) + (x1 : Nat))), (.int .i64 ((x2 : Nat))), (.int .i64 ((x3 : Nat))), (.int .i64 ((x4 : Nat)))] 38)).cell? ⟨q, 0, none⟩ = some (.int .i64 (fk + (x0 : Nat)))) := Lib.hid ((World.cell?_of_block (w := w2) (Below.heap_alloc w2 _ q hq2)).trans k0)
          have hq3 : q < (w2.alloc (.cells #[(.int .i64 (fk + (x0 : Nat))), (.int .i64 (fk + (x0 : Nat) + (x1 : Nat))), (.int .i64 ((x2 : Nat))), (.int .i64 ((x3 : Nat))), (.int .i64 ((x4 : Nat)))] 38)).heap.size := by simp; omega
          go_wp2_with (at_builtin; refine wpList_append_own_at _ rfl _ _ 22 rfl wo.heap.size 38 j0 (.agg #[.int .i64 0, .int .i64 0, .int .i64 0, .int .i64 0, .int .i64 0]) 5 40 Try.underlying22 hj jp0 jp1 jp2 rfl (by decide) _ _ _ rfl (HO3.out.alloc (.cells #[(.int .i64 (fk + (x0 : Nat))), (.int .i64 (fk + (x0 : Nat) + (x1 : Nat))), (.int .i64 ((x2 : Nat))), (.int .i64 ((x3 : Nat))), (.int .i64 ((x4 : Nat)))] 38)) ⟨w2.heap.size, 0, none⟩ 1 1 [(.int .i64 (fk + (x0 : Nat))), (.int .i64 (fk + (x0 : Nat) + (x1 : Nat))), (.int .i64 ((x2 : Nat))), (.int .i64 ((x3 : Nat))), (.int .i64 ((x4 : Nat)))] rfl rfl HNew.out (one_cells5 _ _ _ _ _) HL63.out HLb.out HBs.out ?_; intro v9 w9 hown9 hgrow9 _ hat9; have HG9 := Lib.hid hgrow9; have HO9 := Lib.hid hown9; replace k0 := (World.cell?_of_block (w := w2.alloc (.cells #[(.int .i64 (fk + (x0 : Nat))), (.int .i64 (fk + (x0 : Nat) + (x1 : Nat))), (.int .i64 ((x2 : Nat))), (.int .i64 ((x3 : Nat))), (.int .i64 ((x4 : Nat)))] 38)) (hgrow9.block q hq3 (Ne.symm HQ.out))).trans HBc.out; clear hown9 hgrow9 hat9)
          go_roundw
          case rel => exact ⟨k + 1, by omega, by go_num, by rw [HM2.out], by rw [HM1.out, encPl_snoc]; exact HO9.out, by rw [HM1.out, List.length_append, HMl.out]; rfl, (HB3.out.alloc hwo2 _).grown HG9.out HBs.out (fun g hg => (owns_block HO3.out hg).1)⟩
          case measure => simp [intOf]; omega
        · obtain rfl : k = n0 := by omega
          have hki : ¬ (k : Int) < (k : Int) := by omega
          have hb0 : b ≠ [] := fun e => by
            have h := HR.out
            rw [e] at h
            have h2 : some startR = some (⟨S, n, t⟩ : RS) := h
            simp only [startR, Option.some.injEq, RS.mk.injEq] at h2
            exact HSne.out h2.1.symm
          have hbl : 0 < b.length := List.length_pos_iff.2 hb0
          have hgo := HGo.out
          simp only [HN0.out] at hgo
          generalize (mkK S k).1 = L at *
          have ho3 := ho2
          rw [← hml] at ho3
          obtain ⟨la, lc, rfl, hlc2, hpin⟩ := plSl_of_owns ho3
          have HEn := Lib.hid (rEncode_any L la lc wr hpin (by omega))
          have HO3 := Lib.hid ho3
          have HBw := Lib.hid (HB.out.trans (HB2.out.mono HB.out.size))
          obtain ⟨ba, boff, rfl, _⟩ := HI.out 0 hbl
          clear ho2 hb2 ho3 hpin c0 HO2 hml
          by_cases hE : valE L = 0
          rotate_left
          · have HD := Lib.hid (HNone.out (by rw [hgo, decide_eq_false hE]; rfl))
            have hne : (valE L != 0) = true := bne_iff_ne.2 hE
            generalize valE L = E at *
            clear hgo
            go_wp2_with fail
            refine HEn.out.mono ?_; rintro e w8 ⟨⟨v8, rfl, _⟩, hb8⟩
            have HB8 := Lib.hid (HBw.out.trans (hb8.mono HBw.out.size))
            clear hb8
            go_wp2_with fail
            go_ret2
            exact ⟨⟨_, _, rfl, HD.out _⟩, HB8.out⟩
          have HCb : Hid (∀ w', Below w.heap.size w w' → (convert 25 9 (.slice (some ⟨ba, boff, none⟩) b.length cap)).run Try.prog w' = .ok (.string (strN b)) w') := Lib.hid fun w' hb => conv_bytes (HI.out.below hb)
          have HEp : Hid (∀ v w', EncPost L wr.heap.size v w' → ∃ g2 c2, v = .slice (some ⟨g2, 0, none⟩) (encB L).length c2 ∧ BytesIn w' (some ⟨g2, 0, none⟩) (encB L)) := Lib.hid fun v w' h => encPost_form hE h
          rw [hE] at HEn
          by_cases heq : encB L = b
          · have HD := Lib.hid (HSome.out L (by rw [hgo, hE, decide_eq_true heq]; rfl))
            clear hgo hE
            go_wp2_with fail
            refine HEn.out.mono ?_; rintro e w8 ⟨⟨v8, rfl, hp8⟩, hb8⟩
            obtain ⟨g2, c2, rfl, hby8⟩ := HEp.out _ _ hp8
            have HB8 := Lib.hid (HBw.out.trans (hb8.mono HBw.out.size))
            have HO8 := Lib.hid (owns_base (owns_below HO3.out hb8) HB.out.size)
            have cv1 : (convert 25 9 (.slice (some ⟨g2, 0, none⟩) (encB L).length c2)).run Try.prog w8 = .ok (.string (strN b)) w8 := by rw [← heq]; exact conv_bytes hby8
            have cv2 := HCb.out w8 HB8.out
            generalize strN b = sb at *
            clear hb8 hp8 hby8 heq
            go_wp2_with fail
            go_ret2
            exact ⟨⟨_, _, rfl, HD.out _ _ HO8.out⟩, HB8.out⟩
          · have HD := Lib.hid (HNone.out (by rw [hgo, decide_eq_false heq, Bool.and_false]; rfl))
            have hsn : ((strN (encB L)).toList == (strN b).toList) = false := strN_ne (encB_byte (valE_zero.1 hE)) HBy.out heq
            clear hgo hE heq
            go_wp2_with fail
            refine HEn.out.mono ?_; rintro e w8 ⟨⟨v8, rfl, hp8⟩, hb8⟩
            obtain ⟨g2, c2, rfl, hby8⟩ := HEp.out _ _ hp8
            have HB8 := Lib.hid (HBw.out.trans (hb8.mono HBw.out.size))
            have cv1 : (convert 25 9 (.slice (some ⟨g2, 0, none⟩) (encB L).length c2)).run Try.prog w8 = .ok (.string (strN (encB L))) w8 := conv_bytes hby8
            have cv2 := HCb.out w8 HB8.out
            generalize strN b = sb at *
            generalize strN (encB L) = sa at *
            clear hb8 hp8 hby8
            go_wp2_with fail
            go_ret2
            exact ⟨⟨_, _, rfl, HD.out _⟩, HB8.out⟩
end Go.Proofs.Ytmhneonebjcieaa
