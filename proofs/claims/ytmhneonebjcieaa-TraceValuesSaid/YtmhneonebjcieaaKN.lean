/- The walk of known: the program answers the chapter's examples. -/
import Derived.Test.YtmhneonebjcieaaMW
import Derived.Test.YtmhneonebjcieaaWC
import Derived.Test.YtmhneonebjcieaaSE
namespace Go.Proofs.Ytmhneonebjcieaa
open Go.RowKit

def kl1 : List Pl := [⟨0, 200, 1, 0, 5⟩]
def kb2 : List Nat := [1, 128, 0, 1, 1, 0, 0]
def kl3 : List Pl := [⟨0, 4, 0, 0, 3⟩, ⟨4, 8, 0, 0, 3⟩]
theorem kv1 : valE kl1 = 0 := by decide +kernel
theorem kv3 : valE kl3 = 0 := by decide +kernel
theorem ke1 : encB kl1 = [1, 0, 200, 1, 1, 0, 5] := by decide +kernel
theorem kd2 : decR kb2 = none := by decide +kernel
theorem km3 : sortP (mRun kl3 2).out = [⟨0, 8, 0, 0, 3⟩] := by decide +kernel
theorem ks1 : strN [1, 0, 200, 1, 1, 0, 5] = ⟨#[1, 0, 200, 1, 1, 0, 5]⟩ := by decide +kernel
theorem kin1 (w : World) : PlsIn (w.alloc (.cells #[.int .i64 0, .int .i64 200, .int .i64 1, .int .i64 0, .int .i64 5] 38)) (some ⟨w.heap.size, 0, none⟩) kl1 := fun k hk => by
  have hk : k < 1 := hk
  obtain rfl : k = 0 := by omega
  exact ⟨_, _, rfl, by simp [go_sem]; rfl, by simp [go_sem]; rfl, by simp [go_sem]; rfl, by simp [go_sem]; rfl, by simp [go_sem]; rfl⟩
theorem kin2 (w : World) : BytesIn (w.alloc (.cells #[.int .u8 1, .int .u8 128, .int .u8 0, .int .u8 1, .int .u8 1, .int .u8 0, .int .u8 0] 5)) (some ⟨w.heap.size, 0, none⟩) kb2 := fun k hk => by
  have hk : k < 7 := hk
  refine ⟨_, _, rfl, ?_⟩
  have : k = 0 ∨ k = 1 ∨ k = 2 ∨ k = 3 ∨ k = 4 ∨ k = 5 ∨ k = 6 := by omega
  rcases this with rfl | rfl | rfl | rfl | rfl | rfl | rfl <;> simp [go_sem] <;> rfl
theorem kin3 (w : World) : PlsIn (w.alloc (.cells #[.int .i64 0, .int .i64 4, .int .i64 0, .int .i64 0, .int .i64 3, .int .i64 4, .int .i64 8, .int .i64 0, .int .i64 0, .int .i64 3] 38)) (some ⟨w.heap.size, 0, none⟩) kl3 := fun k hk => by
  have hk : k < 2 := hk
  have : k = 0 ∨ k = 1 := by omega
  rcases this with rfl | rfl <;> exact ⟨_, _, rfl, by simp [go_sem]; rfl, by simp [go_sem]; rfl, by simp [go_sem]; rfl, by simp [go_sem]; rfl, by simp [go_sem]; rfl⟩
theorem kenc {B : Nat} {v : Value} {w : World} (h : EncPost kl1 B v w) : ∃ g c, v = .slice (some ⟨g, 0, none⟩) 7 c ∧ (convert 25 9 (.slice (some ⟨g, 0, none⟩) 7 c)).run Try.prog w = .ok (.string ⟨#[1, 0, 200, 1, 1, 0, 5]⟩) w ∧ BytesIn w (some ⟨g, 0, none⟩) [1, 0, 200, 1, 1, 0, 5] := by
  obtain ⟨g, c, rfl, hb⟩ := encPost_form kv1 h
  rw [ke1] at hb
  refine ⟨g, c, by rw [ke1]; rfl, ?_, hb⟩
  have := conv_bytes (cap := c) hb
  rw [ks1] at this
  exact this
theorem kdec {B : Nat} {v : Value} {c : Int} {w : World} (h : DecPost kb2 B v c w) : v = .slice none 0 0 ∧ c = 2 := by
  unfold DecPost at h
  rw [kd2] at h
  exact h
theorem kmrg {B : Nat} {v : Value} {w : World} (h : MrgPost kl3 B v w) : ∃ g c, v = .slice (some ⟨g, 0, none⟩) 1 c ∧ PlAt w g 0 ⟨0, 8, 0, 0, 3⟩ := by
  unfold MrgPost at h
  rw [if_pos kv3] at h
  obtain ⟨b, _, ho⟩ := h
  have e : kl3.length = 2 := rfl
  rw [e, km3] at ho
  rcases ho.2 with ⟨_, h0⟩ | ⟨g, cap, cur, e, _⟩
  · simp at h0
  · obtain ⟨g', cap', e1, _, _, _, hp, _⟩ := owns_row5 (l := [⟨0, 8, 0, 0, 3⟩]) ho (k := 0) (by simp)
    exact ⟨g', cap', e1, hp⟩
theorem kenc_any (w : World) : Calls Try.prog 15 #[.slice (some ⟨w.heap.size, 0, none⟩) 1 1] (w.alloc (.cells #[.int .i64 0, .int .i64 200, .int .i64 1, .int .i64 0, .int .i64 5] 38)) fun e w' => (∃ g c, e = .returned (.tuple #[.slice (some ⟨g, 0, none⟩) 7 c, .int .i64 0]) ∧ (convert 25 9 (.slice (some ⟨g, 0, none⟩) 7 c)).run Try.prog w' = .ok (.string ⟨#[1, 0, 200, 1, 1, 0, 5]⟩) w' ∧ BytesIn w' (some ⟨g, 0, none⟩) [1, 0, 200, 1, 1, 0, 5]) ∧ Below w.heap.size w w' := by
  refine (encode_any kl1 (some ⟨w.heap.size, 0, none⟩) 1 _ (kin1 w) (by decide) (by decide)).mono ?_
  rintro e w1 ⟨⟨v, rfl, hp⟩, hb⟩
  obtain ⟨g, c, rfl, h1, h2⟩ := kenc hp
  rw [kv1]
  exact ⟨⟨g, c, rfl, h1, h2⟩, ((Below.refl _ _).alloc (Nat.le_refl _) _).trans (hb.mono (by simp))⟩
theorem kdec_any (w : World) : Calls Try.prog 17 #[.slice (some ⟨w.heap.size, 0, none⟩) 7 7] (w.alloc (.cells #[.int .u8 1, .int .u8 128, .int .u8 0, .int .u8 1, .int .u8 1, .int .u8 0, .int .u8 0] 5)) fun e w' => e = .returned (.tuple #[.slice none 0 0, .int .i64 2]) ∧ Below w.heap.size w w' := by
  refine (decode_any kb2 (some ⟨w.heap.size, 0, none⟩) 7 _ (kin2 w) (by decide) (by decide) (by decide) (fun _ q off e => by simp only [Option.some.injEq, Addr.mk.injEq, and_true] at e; simp; omega)).mono ?_
  rintro e w1 ⟨⟨v, c, rfl, hp⟩, hb⟩
  obtain ⟨rfl, rfl⟩ := kdec hp
  exact ⟨rfl, ((Below.refl _ _).alloc (Nat.le_refl _) _).trans (hb.mono (by simp))⟩
theorem kmrg_any (w : World) : Calls Try.prog 24 #[.slice (some ⟨w.heap.size, 0, none⟩) 2 2] (w.alloc (.cells #[.int .i64 0, .int .i64 4, .int .i64 0, .int .i64 0, .int .i64 3, .int .i64 4, .int .i64 8, .int .i64 0, .int .i64 0, .int .i64 3] 38)) fun e w' => (∃ g c, e = .returned (.tuple #[.slice (some ⟨g, 0, none⟩) 1 c, .int .i64 0]) ∧ PlAt w' g 0 ⟨0, 8, 0, 0, 3⟩) ∧ Below w.heap.size w w' := by
  refine (merge_any kl3 (some ⟨w.heap.size, 0, none⟩) 2 _ (kin3 w) (by decide) (by decide)).mono ?_
  rintro e w1 ⟨⟨v, rfl, hp⟩, hb⟩
  obtain ⟨g, c, rfl, h1⟩ := kmrg hp
  rw [kv3]
  exact ⟨⟨g, c, rfl, h1⟩, ((Below.refl _ _).alloc (Nat.le_refl _) _).trans (hb.mono (by simp))⟩
set_option maxRecDepth 100000 in
set_option maxHeartbeats 1000000 in
theorem known_any (w : World) : Calls Try.prog 14 #[] w fun e w' => e = .returned (.bool true) ∧ Below w.heap.size w w' := by
  have heq := eqP_run ⟨0, 8, 0, 0, 3⟩ ⟨0, 8, 0, 0, 3⟩
  rw [decide_eq_true rfl] at heq
  go_enter Try.func14, Try.ntmps14
  go_wp2_with fail
  refine (kenc_any _).mono ?_; rintro e w1 ⟨⟨g1, c1, rfl, hc1, hby1⟩, hb1⟩
  have HBy1 := Lib.hid hby1; have HB1 := Lib.hid hb1
  clear hc1 hby1 hb1
  go_wp2_with fail
  refine (kdec_any _).mono ?_; rintro e w2 ⟨rfl, hb2⟩
  have HBy2 := Lib.hid (HBy1.out.below hb2); have HB2 := Lib.hid (HB1.out.trans (hb2.mono HB1.out.size))
  clear hb2
  go_wp2_with fail
  refine (kmrg_any _).mono ?_; rintro e w3 ⟨⟨g3, c3, rfl, hp3⟩, hb3⟩
  have HB3 := Lib.hid (HB2.out.trans (hb3.mono HB2.out.size))
  have hcv : (convert 25 9 (.slice (some ⟨g1, 0, none⟩) 7 c1)).run Try.prog w3 = .ok (.string ⟨#[1, 0, 200, 1, 1, 0, 5]⟩) w3 := by
    have := conv_bytes (cap := c1) (HBy2.out.below hb3)
    rw [ks1] at this
    exact this
  obtain ⟨y0, y1, y2, y3, y4⟩ := hp3
  simp only at y0 y1 y2 y3 y4
  clear hb3
  go_wp2_with fail
  go_ret
  exact ⟨rfl, HB3.out⟩
end Go.Proofs.Ytmhneonebjcieaa
