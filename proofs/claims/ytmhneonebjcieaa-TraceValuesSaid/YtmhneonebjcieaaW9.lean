/- The walk of the closure take of Decode. -/
import Derived.Test.YtmhneonebjcieaaW8
import Derived.Test.YtmhneonebjcieaaP4
import Derived.Lib.VarintBits
namespace Go.Proofs.Ytmhneonebjcieaa
open Go.RowKit

/-- Nothing but two blocks has changed, and no block is new. -/
structure Save2 (p : Nat) (w w' : World) : Prop where
  os : w'.os = w.os
  tape : w'.tape = w.tape
  output : w'.output = w.output
  size : w'.heap.size = w.heap.size
  block : ∀ k, k ≠ p → k ≠ p + 1 → w'.heap[k]? = w.heap[k]?
theorem Save2.refl (p : Nat) (w : World) : Save2 p w w := ⟨rfl, rfl, rfl, rfl, fun _ _ _ => rfl⟩
theorem Save2.trans {p : Nat} {a b c : World} (h : Save2 p a b) (k : Save2 p b c) : Save2 p a c :=
  ⟨k.os.trans h.os, k.tape.trans h.tape, k.output.trans h.output, k.size.trans h.size, fun i h1 h2 => (k.block i h1 h2).trans (h.block i h1 h2)⟩
theorem Save2.set (p : Nat) (w : World) (q : Nat) (hq : q = p ∨ q = p + 1) (x : Value) : Save2 p w (w.setCell ⟨q, 0, none⟩ x) :=
  ⟨rfl, rfl, rfl, by simp [World.setCell], fun k h1 h2 => Below.heap_setCell _ _ _ _ (by show k ≠ q; omega)⟩
theorem Save2.below {p B : Nat} {w w' : World} (h : Save2 p w w') (hp : B ≤ p) : Below B w w' :=
  ⟨h.os, h.tape, h.output, by rw [h.size]; exact Nat.le_refl _, fun k hk => h.block k (by omega) (by omega)⟩
theorem Save2.cell {p : Nat} {w w' : World} (h : Save2 p w w') {q : Nat} (h1 : q ≠ p) (h2 : q ≠ p + 1) (k : Nat) : w'.cell? ⟨q, k, none⟩ = w.cell? ⟨q, k, none⟩ :=
  World.cell?_of_block (w := w) (h.block q h1 h2)
/-- The bytes that are left (box p) and whether there was a fault (box p + 1). -/
structure TakeSt (p : Nat) (w : World) (s : TSt) : Prop where
  box : ∃ a cap, w.heap[p]? = some (.cells #[.slice a s.rest.length cap] 25 (0, 0)) ∧ s.rest.length ≤ cap ∧ BytesIn w a s.rest ∧ (s.rest ≠ [] → ∀ b off, a = some ⟨b, off, none⟩ → b < p)
  flag : w.heap[p + 1]? = some (.cells #[.bool s.wrong] 4 (0, 0))
  byte : ∀ x ∈ s.rest, x < 256
  len : s.rest.length ≤ 4000
theorem byte_at {l : List Nat} (h : ∀ x ∈ l, x < 256) {k : Nat} (hk : k < l.length) : l.getD k 0 < 256 := by
  rw [List.getD_eq_getElem?_getD, List.getElem?_eq_getElem hk]
  exact h _ (List.getElem_mem hk)

theorem wrap64_in {n : Int} (h0 : 0 ≤ n) (h1 : n < 9223372036854775808) : wrap64 n = n := by unfold wrap64; omega
theorem or_shift {lo c k : Nat} (hk : k < 5) (hlo : lo < 128 ^ k) (hc : c < 128) : bits .or .i64 (lo : Int) (wrap64 ((c : Int) * 2 ^ (7 * k))) = ((lo + c * 128 ^ k : Nat) : Int) := by
  have : k = 0 ∨ k = 1 ∨ k = 2 ∨ k = 3 ∨ k = 4 := by omega
  rcases this with rfl | rfl | rfl | rfl | rfl
  all_goals
    simp only [Nat.reduceMul, Nat.reducePow, Int.reducePow, Nat.pow_zero] at *
    rw [wrap64_in (by omega) (by omega)]
  · rw [bits_join_low .i64 63 (by decide) wraps63 0 _ _ (by omega) (by omega) (by omega) (by omega) (by omega) (by omega)]; omega
  · rw [bits_join_low .i64 63 (by decide) wraps63 7 _ _ (by omega) (by omega) (by omega) (by omega) (by omega) (by omega)]; omega
  · rw [bits_join_low .i64 63 (by decide) wraps63 14 _ _ (by omega) (by omega) (by omega) (by omega) (by omega) (by omega)]; omega
  · rw [bits_join_low .i64 63 (by decide) wraps63 21 _ _ (by omega) (by omega) (by omega) (by omega) (by omega) (by omega)]; omega
  · rw [bits_join_low .i64 63 (by decide) wraps63 28 _ _ (by omega) (by omega) (by omega) (by omega) (by omega) (by omega)]; omega
theorem TakeSt.next {p k b off cap : Nat} {w : World} {s : TSt} (W : Bool) (A : Addr) (C : Nat) (hb : w.heap[p]? = some (.cells #[.slice (some ⟨b, off, none⟩) s.rest.length cap] 25 (0, 0))) (hf : w.heap[p + 1]? = some (.cells #[.bool s.wrong] 4 (0, 0)))
    (hin : BytesIn w (some ⟨b, off, none⟩) s.rest) (hlc : s.rest.length ≤ cap) (hbp : b < p) (hby : ∀ x ∈ s.rest, x < 256) (hlen : s.rest.length ≤ 4000) (hk : k < s.rest.length) (hA : cap = k + 1 ∨ A = ⟨b, off + (k + 1), none⟩) (hC : C = cap - (k + 1)) :
    TakeSt p ((w.setCell ⟨p + 1, 0, none⟩ (.bool W)).setCell ⟨p, 0, none⟩ (.slice (some A) (s.rest.length - (k + 1)) C)) ⟨W, s.rest.drop (k + 1)⟩ ∧
      Save2 p w ((w.setCell ⟨p + 1, 0, none⟩ (.bool W)).setCell ⟨p, 0, none⟩ (.slice (some A) (s.rest.length - (k + 1)) C)) := by
  have hs : Save2 p w ((w.setCell ⟨p + 1, 0, none⟩ (.bool W)).setCell ⟨p, 0, none⟩ (.slice (some A) (s.rest.length - (k + 1)) C)) := (Save2.set p w (p + 1) (.inr rfl) _).trans (Save2.set p _ p (.inl rfl) _)
  have hb1 : (w.setCell ⟨p + 1, 0, none⟩ (.bool W)).heap[p]? = some (.cells #[.slice (some ⟨b, off, none⟩) s.rest.length cap] 25 (0, 0)) := (Below.heap_setCell _ _ _ _ (by show p ≠ p + 1; omega)).trans hb
  refine ⟨⟨⟨some A, C, ?_, ?_, ?_, ?_⟩, ?_, ?_, ?_⟩, hs⟩
  · rw [heap_setCell_same _ p 0 _ _ _ hb1, List.length_drop]; rfl
  · rw [List.length_drop]; omega
  · intro j hj
    rw [List.length_drop] at hj
    rcases hA with h | rfl
    · omega
    · obtain ⟨b', off', e, hc⟩ := hin (k + 1 + j) (by omega)
      simp only [Option.some.injEq, Addr.mk.injEq, and_true] at e
      obtain ⟨rfl, rfl⟩ := e
      refine ⟨b, off + (k + 1), rfl, ?_⟩
      rw [hs.cell (by omega) (by omega), Nat.add_assoc, hc, List.getD_eq_getElem?_getD, List.getD_eq_getElem?_getD, List.getElem?_drop]
  · intro hne b' off' e
    rcases hA with h | rfl
    · exact absurd (List.drop_eq_nil_of_le (by omega)) hne
    · simp only [Option.some.injEq, Addr.mk.injEq, and_true] at e
      omega
  · rw [Below.heap_setCell _ _ _ _ (by show p + 1 ≠ p; omega), heap_setCell_same _ (p + 1) 0 _ _ _ hf]; rfl
  · exact fun x hx => hby x (List.mem_of_mem_drop hx)
  · rw [List.length_drop]; omega
theorem TakeSt.fail {p : Nat} {w : World} {s : TSt} (h : TakeSt p w s) : TakeSt p (w.setCell ⟨p + 1, 0, none⟩ (.bool true)) ⟨true, s.rest⟩ ∧ Save2 p w (w.setCell ⟨p + 1, 0, none⟩ (.bool true)) := by
  have hs := Save2.set p w (p + 1) (.inr rfl) (.bool true)
  obtain ⟨a, cap, hb, hlc, hin, hbp⟩ := h.box
  refine ⟨⟨⟨a, cap, ?_, hlc, fun k hk => ?_, hbp⟩, ?_, h.byte, h.len⟩, hs⟩
  · rw [Below.heap_setCell _ _ _ _ (by show p ≠ p + 1; omega)]; exact hb
  · obtain ⟨b, off, rfl, hc⟩ := hin k hk
    have := hbp (fun e => by rw [e] at hk; exact absurd hk (Nat.not_lt_zero _)) b off rfl
    exact ⟨b, off, rfl, by rw [hs.cell (by omega) (by omega)]; exact hc⟩
  · rw [heap_setCell_same _ (p + 1) 0 _ _ _ h.flag]; rfl

set_option maxRecDepth 100000 in
set_option maxHeartbeats 2000000 in
theorem take_any (p : Nat) (s : TSt) (w : World) (hst : TakeSt p w s) :
    Calls Try.prog 40 #[.pointer (some ⟨p, 0, none⟩), .pointer (some ⟨p + 1, 0, none⟩)] w fun e w' => e = .returned (.int .i64 (takeN s : Nat)) ∧ TakeSt p w' (takeS s) ∧ Save2 p w w' := by
  obtain ⟨a, cap, hbox, hlc, hin, hbp⟩ := hst.box
  have hflag := hst.flag
  have cb : w.cell? ⟨p, 0, none⟩ = some (.slice a s.rest.length cap) := cell_of_row w p 0 _ _ _ hbox
  have fb := frozen_of_row w p 0 _ _ hbox
  have cf : w.cell? ⟨p + 1, 0, none⟩ = some (.bool s.wrong) := cell_of_row w (p + 1) 0 _ _ _ hflag
  have ff := frozen_of_row w (p + 1) 0 _ _ hflag
  have hl4 := hst.len
  have HBy := Lib.hid hst.byte; have HI := Lib.hid hin; have HBox := Lib.hid hbox; have HFlag := Lib.hid hflag; have HBp := Lib.hid hbp
  have HSt := Lib.hid hst
  clear hst hin hbox hflag hbp
  have HHit : Hid (∀ k, k < 5 → k < s.rest.length → (∀ j, j < k → 128 ≤ s.rest.getD j 0) → s.rest.getD k 0 < 128 → takeN s = lowF (k + 1) s.rest ∧ takeS s = ⟨s.wrong || (decide (0 < k) && decide (s.rest.getD k 0 = 0)), s.rest.drop (k + 1)⟩) := Lib.hid fun k => take_hit
  have HMiss : Hid (∀ k, (∀ j, j < k → 128 ≤ s.rest.getD j 0) → (k = 5 ∨ k = s.rest.length) → takeN s = 0 ∧ takeS s = ⟨true, s.rest⟩) := Lib.hid fun k => take_miss
  have HLs : Hid (∀ k, k < s.rest.length → lowF (k + 1) s.rest = lowF k s.rest + s.rest.getD k 0 % 128 * 128 ^ k) := Lib.hid fun k => lowF_succ k s.rest
  have HLt : Hid (∀ k, lowF k s.rest < 128 ^ k) := Lib.hid fun k => lowF_lt k s.rest
  go_enter Try.func40, Try.ntmps40
  go_wp2_with fail
  go_loopw [3, 4] (fun n i wr => ∃ k : Nat, k ≤ 5 ∧ k ≤ s.rest.length ∧ i = .int .i64 k ∧ n = .int .i64 (lowF k s.rest : Nat) ∧ (∀ j, j < k → 128 ≤ s.rest.getD j 0) ∧ w = wr) (fun _ i _ => 5 - (intOf i).toNat)
  case atStart => exact ⟨0, by omega, Nat.zero_le _, rfl, rfl, fun j hj => absurd hj (Nat.not_lt_zero _), rfl⟩
  case round =>
    obtain ⟨k, hk5, hkl, rfl, rfl, hall, rfl⟩ := hrel
    have HAll := Lib.hid hall; clear hall
    by_cases hlt : k < 5 ∧ k < s.rest.length
    · obtain ⟨h5, hl⟩ := hlt
      obtain ⟨b, off, rfl, hc⟩ := HI.out k hl
      have hby := byte_at HBy.out hl
      have hLs := HLs.out k hl
      have hLt := HLt.out k
      have HH := Lib.hid (HHit.out k h5 hl HAll.out)
      have hki : (k : Int) < (s.rest.length : Int) := by omega
      have h5i : (k : Int) < 5 := by omega
      generalize hv : s.rest.getD k 0 = v at *
      have hand : bits .and .u8 (v : Int) 127 = (v : Int) % 128 := u8_and127 _ (by omega) (by omega)
      obtain ⟨c, hc8⟩ : ∃ c, v % 128 = c := ⟨_, rfl⟩
      have hand2 : (v : Int) % 128 = (c : Int) := by omega
      have hc128 : c < 128 := by omega
      rw [hc8] at hLs
      generalize lowF k s.rest = lo at *
      generalize hq : 128 ^ k = q at *
      have HIn := HI
      have HHv := Lib.hid hv; have HLs1 := Lib.hid hLs; have HQ := Lib.hid hq; have HC8 := Lib.hid hc8
      clear hv hLs hq hc8 HLs HLt HMiss HHit
      have HOr := Lib.hid (or_shift (lo := lo) (c := c) (k := k) h5 (by rw [HQ.out]; exact hLt) hc128)
      have hb_p := HBp.out (fun e => by rw [e] at hl; exact absurd hl (Nat.not_lt_zero _)) b off rfl
      have hkc : (k : Int) + 1 ≤ cap := by omega
      clear HI HBp
      by_cases hv8 : v < 128
      · have hvi : (v : Int) < 128 := by omega
        obtain ⟨e1, e2⟩ := HH.out hv8
        have HE1 := Lib.hid e1
        have hnx := fun (W : Bool) (A : Addr) (C : Nat) (hA : cap = k + 1 ∨ A = ⟨b, off + (k + 1), none⟩) (hC : C = cap - (k + 1)) => TakeSt.next (s := s) W A C HBox.out HFlag.out HIn.out hlc hb_p HBy.out hl4 hl hA hC
        have HNx := Lib.hid hnx
        clear hnx
        have HE2 := Lib.hid e2
        clear e1 e2 HH
        by_cases hcap : cap = k + 1
        all_goals
          cases hw : s.wrong
          · by_cases hk0 : 0 < k
            · have hk0i : (0 : Int) < (k : Int) := by omega
              by_cases hv0 : v = 0
              · have HW : Hid ((s.wrong || (decide (0 < k) && decide (v = 0))) = true) := Lib.hid (by rw [hw, decide_eq_true hk0, decide_eq_true hv0]; rfl)
                have hvb : ((v : Int) == 0) = true := by rw [beq_iff_eq]; omega
                rw [hw] at cf
                clear hw hv0
                go_wp2_with fail
                go_ret
                refine ⟨ret_int (by rw [HE1.out, HLs1.out, HOr.out, HQ.out]), ?_⟩
                rw [HE2.out, HW.out]
                exact HNx.out true _ _ (by first | exact .inl hcap | exact .inr rfl) (by omega)
              · have HW : Hid ((s.wrong || (decide (0 < k) && decide (v = 0))) = false) := Lib.hid (by rw [hw, decide_eq_false hv0, Bool.and_false]; rfl)
                have hvb : ((v : Int) == 0) = false := by rw [beq_eq_false_iff_ne]; omega
                rw [hw] at cf
                clear hw
                go_wp2_with fail
                go_ret
                refine ⟨ret_int (by rw [HE1.out, HLs1.out, HOr.out, HQ.out]), ?_⟩
                rw [HE2.out, HW.out]
                exact HNx.out false _ _ (by first | exact .inl hcap | exact .inr rfl) (by omega)
            · have hk0i : ¬ (0 : Int) < (k : Int) := by omega
              have HW : Hid ((s.wrong || (decide (0 < k) && decide (v = 0))) = false) := Lib.hid (by rw [hw, decide_eq_false hk0]; rfl)
              rw [hw] at cf
              clear hw
              go_wp2_with fail
              go_ret
              refine ⟨ret_int (by rw [HE1.out, HLs1.out, HOr.out, HQ.out]), ?_⟩
              rw [HE2.out, HW.out]
              exact HNx.out false _ _ (by first | exact .inl hcap | exact .inr rfl) (by omega)
          · have HW : Hid ((s.wrong || (decide (0 < k) && decide (v = 0))) = true) := Lib.hid (by rw [hw]; rfl)
            rw [hw] at cf
            clear hw
            go_wp2_with fail
            go_ret
            refine ⟨ret_int (by rw [HE1.out, HLs1.out, HOr.out, HQ.out]), ?_⟩
            rw [HE2.out, HW.out]
            exact HNx.out true _ _ (by first | exact .inl hcap | exact .inr rfl) (by omega)
      · have hvi : ¬ (v : Int) < 128 := by omega
        have HN : Hid (∀ j, j < k + 1 → 128 ≤ s.rest.getD j 0) := Lib.hid fun j hj => by
          by_cases e : j = k
          · rw [e, HHv.out]; omega
          · exact HAll.out j (by omega)
        clear HH
        go_wp2_with fail
        go_roundw
        case rel => exact ⟨k + 1, by omega, by omega, by go_num, by rw [HLs1.out, HOr.out, HQ.out], HN.out, trivial⟩
        case measure => simp [intOf]; omega
    · have HM := Lib.hid (HMiss.out k HAll.out (by omega))
      obtain ⟨e1, e2⟩ := HM.out
      have HE1 := Lib.hid e1; have HE2 := Lib.hid e2
      have HF := Lib.hid HSt.out.fail
      clear e1 e2 HM HHit HMiss HLs HLt
      by_cases h5 : k < 5
      · have h5i : (k : Int) < 5 := by omega
        have hki : ¬ (k : Int) < (s.rest.length : Int) := by omega
        go_wp2_with fail
        go_ret
        refine ⟨ret_int (by rw [HE1.out]; rfl), ?_⟩
        rw [HE2.out]
        exact HF.out
      · have h5i : ¬ (k : Int) < 5 := by omega
        go_wp2_with fail
        go_ret
        refine ⟨ret_int (by rw [HE1.out]; rfl), ?_⟩
        rw [HE2.out]
        exact HF.out
end Go.Proofs.Ytmhneonebjcieaa
