/- The walk of Value of the document. -/
import Derived.Test.YtmhneonebjcieaaMX
namespace Go.Proofs.Ytmhneonebjcieaa
open Go.RowKit

theorem asked_zero {l : List Pl} {v : Int} (hE : valE l = 0) : askedE l v [] = if within v 0 63 then 0 else 1 := by
  unfold askedE
  rw [if_neg (by simp [hE])]
  have h1 : sortedI [] = true := by unfold sortedI; simp
  rw [h1]
  simp
def revK (mem : List Nat) (n : Nat) : Nat → Nat
  | 0 => 0
  | k + 1 => revK mem n k * 256 + mem.getD (n + (3 - k)) 0
theorem revK_four (mem : List Nat) (n : Nat) : revK mem n 4 = wordM mem n := by
  show (((0 * 256 + mem.getD (n + 3) 0) * 256 + mem.getD (n + 2) 0) * 256 + mem.getD (n + 1) 0) * 256 + mem.getD (n + 0) 0 = _
  unfold wordM
  simp only [Nat.add_zero, Nat.zero_mul, Nat.zero_add]
  generalize mem.getD n 0 = a0, mem.getD (n + 1) 0 = a1, mem.getD (n + 2) 0 = a2, mem.getD (n + 3) 0 = a3
  omega
theorem revK_lt {mem : List Nat} (h : ∀ k, mem.getD k 0 < 256) (n : Nat) : ∀ k, revK mem n k < 256 ^ k
  | 0 => by show 0 < 256 ^ 0; decide
  | k + 1 => by
    have ih := revK_lt h n k
    have hb := h (n + (3 - k))
    show revK mem n k * 256 + mem.getD (n + (3 - k)) 0 < 256 ^ (k + 1)
    rw [Nat.pow_succ]; omega
theorem or_high (A b : Nat) (hA : A < 16777216) (hb : b < 256) : bits .or .u32 ((A * 256 : Nat) : Int) (b : Int) = ((A * 256 + b : Nat) : Int) := by
  rw [bits_join .u32 32 (by decide) wraps32 8 ((A * 256 : Nat) : Int) (b : Int) (by omega) (by omega) (by omega) (by omega) (by omega) (by omega)]; omega
theorem rstep0 {mem : List Nat} {n : Nat} (hA : revK mem n 0 < 256 ^ 0) (hb : mem.getD (n + 3) 0 < 256) : Value.int .u32 (bits .or .u32 (((revK mem n 0 : Nat) : Int) * 256 % 4294967296) (((mem.getD (n + 3) 0 : Nat) : Int) % 4294967296)) = .int .u32 (revK mem n 1 : Nat) := by
  have e : revK mem n 1 = revK mem n 0 * 256 + mem.getD (n + 3) 0 := rfl
  rw [e]
  generalize revK mem n 0 = A at *
  generalize mem.getD (n + 3) 0 = b at *
  have hA : A < 1 := hA
  rw [show (A : Int) * 256 % 4294967296 = ((A * 256 : Nat) : Int) by omega, show (b : Int) % 4294967296 = ((b : Nat) : Int) by omega, or_high A b (by omega) hb]
theorem rstep1 {mem : List Nat} {n : Nat} (hA : revK mem n 1 < 256 ^ 1) (hb : mem.getD (n + 2) 0 < 256) : Value.int .u32 (bits .or .u32 (((revK mem n 1 : Nat) : Int) * 256 % 4294967296) (((mem.getD (n + 2) 0 : Nat) : Int) % 4294967296)) = .int .u32 (revK mem n 2 : Nat) := by
  have e : revK mem n 2 = revK mem n 1 * 256 + mem.getD (n + 2) 0 := rfl
  rw [e]
  generalize revK mem n 1 = A at *
  generalize mem.getD (n + 2) 0 = b at *
  have hA : A < 256 := hA
  rw [show (A : Int) * 256 % 4294967296 = ((A * 256 : Nat) : Int) by omega, show (b : Int) % 4294967296 = ((b : Nat) : Int) by omega, or_high A b (by omega) hb]
theorem rstep2 {mem : List Nat} {n : Nat} (hA : revK mem n 2 < 256 ^ 2) (hb : mem.getD (n + 1) 0 < 256) : Value.int .u32 (bits .or .u32 (((revK mem n 2 : Nat) : Int) * 256 % 4294967296) (((mem.getD (n + 1) 0 : Nat) : Int) % 4294967296)) = .int .u32 (revK mem n 3 : Nat) := by
  have e : revK mem n 3 = revK mem n 2 * 256 + mem.getD (n + 1) 0 := rfl
  rw [e]
  generalize revK mem n 2 = A at *
  generalize mem.getD (n + 1) 0 = b at *
  have hA : A < 65536 := hA
  rw [show (A : Int) * 256 % 4294967296 = ((A * 256 : Nat) : Int) by omega, show (b : Int) % 4294967296 = ((b : Nat) : Int) by omega, or_high A b (by omega) hb]
theorem rstep3 {mem : List Nat} {n : Nat} (hA : revK mem n 3 < 256 ^ 3) (hb : mem.getD (n + 0) 0 < 256) : Value.int .u32 (bits .or .u32 (((revK mem n 3 : Nat) : Int) * 256 % 4294967296) (((mem.getD (n + 0) 0 : Nat) : Int) % 4294967296)) = .int .u32 (revK mem n 4 : Nat) := by
  have e : revK mem n 4 = revK mem n 3 * 256 + mem.getD (n + 0) 0 := rfl
  rw [e]
  generalize revK mem n 3 = A at *
  generalize mem.getD (n + 0) 0 = b at *
  have hA : A < 16777216 := hA
  rw [show (A : Int) * 256 % 4294967296 = ((A * 256 : Nat) : Int) by omega, show (b : Int) % 4294967296 = ((b : Nat) : Int) by omega, or_high A b (by omega) hb]
set_option maxRecDepth 100000 in
set_option maxHeartbeats 4000000 in
theorem rValue_any (l : List Pl) (a : Option Addr) (cap : Nat) (C : Array Value) (R : Nat → Nat) (at0 : Nat) (ma : Option Addr) (mcap : Nat) (mem : List Nat) (v : Int) (w : World) (hin : PlsIn w a l) (hl : l.length ≤ 1000)
    (hC : MachV C R at0 ma mcap mem) (hmem : BytesIn w ma mem) (hml : mem.length ≤ 40000) :
    Calls Try.prog 35 #[.slice a l.length cap, .agg C, .int .i64 v] w fun e w' => e = .returned (.tuple #[.int .u32 (valN l v R at0 mem : Nat), .bool (valB l v at0 mem), .int .i64 (valR l v at0 mem)]) ∧ Below w.heap.size w w' := by
  have hb1 : Below w.heap.size w (w.alloc (.cells C 57)) := (Below.refl _ _).alloc (Nat.le_refl _) _
  have HM1 := Lib.hid (hC.box w)
  have HVl := Lib.hid (rValid_any l a cap _ (hin.below hb1) hl)
  have HB1 := Lib.hid hb1; have HI := Lib.hid hin; have HMem := Lib.hid hmem
  have HV := Lib.hid (fun n b e (h : ValOf l v R at0 mem n b e) => And.intro h.n (And.intro h.b h.e))
  have HTab := Lib.hid (fun h => @asked_good l v [] h)
  have hat := hC.at1
  have HC := Lib.hid hC
  clear hin hmem hb1 hC
  by_cases hV : valE l = 0
  rotate_left
  · have hA : askedE l v [] = valE l := by unfold askedE; rw [if_pos hV]
    obtain ⟨h1, h2, h3⟩ := HV.out _ _ _ (val_asked (by rw [hA]; exact hV))
    rw [h1, h2, h3, hA]
    have hne : (valE l != 0) = true := bne_iff_ne.2 hV
    generalize valE l = E at *
    clear hV h1 h2 h3 HV hA
    go_enter Try.func35, Try.ntmps35
    go_wp2_with fail
    refine HVl.out.mono ?_; rintro e w1 ⟨rfl, hb2⟩
    have HB2 := Lib.hid (HB1.out.trans (hb2.mono HB1.out.size))
    clear hb2
    go_wp2_with fail
    exact bodyPost_ret (v := .tuple #[.int .u32 0, .bool false, .int .i64 E]) (by simp [results, Try.results35, go_sem]) rfl ⟨rfl, HB2.out⟩
  have hA := asked_zero (v := v) hV
  rw [hV] at HVl
  cases hw : within v 0 63
  · rw [hw] at hA
    have hA : askedE l v [] = 1 := hA
    obtain ⟨h1, h2, h3⟩ := HV.out _ _ _ (val_asked (by rw [hA]; decide))
    rw [h1, h2, h3, hA]
    have HC1 := Lib.hid (rwithin_is hw)
    clear hV h1 h2 h3 HV hA hw
    go_enter Try.func35, Try.ntmps35
    go_wp2_with fail
    refine HVl.out.mono ?_; rintro e w1 ⟨rfl, hb2⟩
    have HB2 := Lib.hid (HB1.out.trans (hb2.mono HB1.out.size))
    clear hb2
    go_wp2_with fail
    refine (HC1.out _).mono ?_; rintro e w2 ⟨rfl, rfl⟩
    go_wp2_with fail
    exact bodyPost_ret (v := .tuple #[.int .u32 0, .bool false, .int .i64 1]) (by simp [results, Try.results35, go_sem]) rfl ⟨rfl, HB2.out⟩
  rw [hw] at hA
  have hE : askedE l v [] = 0 := hA
  have HT := Lib.hid (HTab.out hE)
  have HC1 := Lib.hid (rwithin_is hw)
  clear hV hA hw
  have HF := Lib.hid (fun (w' : World) (hb : Below w.heap.size w w') => rfind_any l a cap v (at0 : Int) w' (HI.out.below hb) hl)
  have HNone := Lib.hid (fun h => HV.out _ _ _ (val_none hE h))
  have HReg := Lib.hid (fun h k => HV.out _ _ _ (val_reg hE h k))
  have HCo := Lib.hid (fun h k => HV.out _ _ _ (val_const hE h k))
  have HFar := Lib.hid (fun h k m => HV.out _ _ _ (val_far hE h k m))
  have HWd := Lib.hid (fun h k m => HV.out _ _ _ (val_word hE h k m))
  have HGo := Lib.hid (fun h => HT.out.mem (found_spec' (l := l) (v := v) (a := at0) h))
  clear HV HTab hE
  generalize valN l v R at0 mem = VN at *
  generalize valB l v at0 mem = VB at *
  generalize valR l v at0 mem = VR at *
  generalize isFound l v at0 = fb at *
  generalize foundP l v at0 = p at *
  obtain ⟨p0, p1, p2, p3, p4⟩ := p
  have hw64 : IntKind.i64.wrap (at0 : Int) = (at0 : Int) := IntWalk.i64_in _ (by omega)
  go_enter Try.func35, Try.ntmps35
  go_wp2_with fail
  refine HVl.out.mono ?_; rintro e w1 ⟨rfl, hb2⟩
  have HB2 := Lib.hid (HB1.out.trans (hb2.mono HB1.out.size))
  have HM2 := Lib.hid (HM1.out.keep hb2)
  have c33 := HM2.out.atc
  clear hb2
  go_wp2_with fail
  refine (HC1.out _).mono ?_; rintro e w1 ⟨rfl, rfl⟩
  go_wp2_with fail
  refine (HF.out _ HB2.out).mono ?_; rintro e w2 ⟨rfl, hb3⟩
  have HB3 := Lib.hid ((HB2.out.trans (hb3.mono HB2.out.size)).alloc (Nat.le_trans HB2.out.size hb3.size) (.cells #[.int .i64 p0, .int .i64 p1, .int .i64 p2, .int .i64 p3, .int .i64 p4] 38))
  have hal : Below w1.heap.size w1 (w2.alloc (.cells #[.int .i64 p0, .int .i64 p1, .int .i64 p2, .int .i64 p3, .int .i64 p4] 38)) := hb3.alloc hb3.size _
  have HM3 := Lib.hid (HM2.out.keep hal)
  have HMem3 := Lib.hid (HMem.out.below HB3.out)
  obtain ⟨c0, c1, c2, c3, c4⟩ : PlAt (w2.alloc (.cells #[.int .i64 p0, .int .i64 p1, .int .i64 p2, .int .i64 p3, .int .i64 p4] 38)) w2.heap.size 0 ⟨p0, p1, p2, p3, p4⟩ := ⟨by simp [go_sem], by simp [go_sem], by simp [go_sem], by simp [go_sem], by simp [go_sem]⟩
  simp only at c0 c1 c2 c3 c4
  clear hb3 hal c33
  cases fb
  · obtain ⟨rfl, rfl, rfl⟩ := HNone.out rfl
    go_wp2_with fail
    exact bodyPost_ret (v := .tuple #[.int .u32 0, .bool false, .int .i64 0]) (by simp [results, Try.results35, go_sem]) rfl ⟨rfl, HB3.out⟩
  obtain ⟨g0, g1, g2, g3, g4, g5, g6, g7, g8⟩ := HGo.out rfl
  simp only at g0 g1 g2 g3 g4 g5 g6 g7 g8
  obtain ⟨n, rfl⟩ := Int.eq_ofNat_of_zero_le g7
  have hk3 : p3 = 0 ∨ p3 = 1 ∨ p3 = 2 := by omega
  rcases hk3 with rfl | rfl | rfl
  · obtain ⟨h1, h2, h3⟩ := HReg.out rfl rfl
    have hn31 : n ≤ 31 := by have : limK 0 = 31 := rfl; rw [this] at g8; omega
    have hni : (n : Int) < 32 := by omega
    have cr := HM3.out.reg n (by omega)
    have htn : ((n : Int)).toNat = n := by omega
    simp only [htn] at h1
    subst h2; subst h3
    obtain rfl : R n = VN := h1.symm
    clear g0 g1 g2 g3 g4 g5 g6 g8 HNone HReg HCo HFar HWd HGo
    go_wp2_with fail
    exact bodyPost_ret (v := .tuple #[.int .u32 (R n : Nat), .bool true, .int .i64 0]) (by simp [results, Try.results35, go_sem]) rfl ⟨rfl, HB3.out⟩
  · by_cases hfar : (mem.length : Int) < (n : Int) + 4
    · obtain ⟨rfl, rfl, rfl⟩ := HFar.out rfl rfl hfar
      have cm := HM3.out.memc
      have hn9 : n ≤ 40000 := by have : limK 1 = 32764 := rfl; rw [this] at g8; omega
      clear g0 g1 g2 g3 g4 g5 g6 g8 HNone HReg HCo HWd HGo HFar
      go_wp2_with fail
      exact bodyPost_ret (v := .tuple #[.int .u32 0, .bool false, .int .i64 4]) (by simp [results, Try.results35, go_sem]) rfl ⟨rfl, HB3.out⟩
    · obtain ⟨h1, h2, h3⟩ := HWd.out rfl rfl (by omega)
      have htn : ((n : Int)).toNat = n := by omega
      simp only [htn] at h1
      subst h2; subst h3
      obtain rfl : wordM mem n = VN := h1.symm
      have cm := HM3.out.memc
      have hlc := HC.out.lenc
      have hn9 : n + 4 ≤ mem.length := by omega
      have hnl : n ≤ 40000 := by omega
      obtain ⟨mb, mo, rfl, b0⟩ := HMem3.out n (by omega)
      clear g0 g1 g2 g3 g4 g5 g6 g8 HNone HReg HCo HWd HGo HFar
      have HBy : Hid (∀ k, mem.getD k 0 < 256) := Lib.hid (byteM HC.out.byte)
      have HCe : Hid (∀ k, k < 4 → (w2.alloc (.cells #[.int .i64 p0, .int .i64 p1, .int .i64 p2, .int .i64 1, .int .i64 (n : Int)] 38)).cell? ⟨mb, mo + n + k, none⟩ = some (.int .u8 (mem.getD (n + k) 0 : Nat))) := Lib.hid fun k hk => by
        obtain ⟨mb', mo', e, hc⟩ := HMem3.out (n + k) (by omega)
        simp only [Option.some.injEq, Addr.mk.injEq, and_true] at e
        obtain ⟨rfl, rfl⟩ := e
        rw [Nat.add_assoc]; exact hc
      clear b0
      go_wp2_with fail
      go_loop [12, 13] (fun acc i => ∃ k : Nat, k ≤ 4 ∧ i = .int .i64 (3 - (k : Int)) ∧ acc = .int .u32 (revK mem n k : Nat)) (fun _ i => (intOf i + 1).toNat)
      case atStart => exact ⟨0, Nat.zero_le _, rfl, rfl⟩
      case round =>
        obtain ⟨k, hk, rfl, rfl⟩ := hrel
        have hb := HBy.out
        have hk4 : k = 0 ∨ k = 1 ∨ k = 2 ∨ k = 3 ∨ k = 4 := by omega
        rcases hk4 with rfl | rfl | rfl | rfl | rfl
        · have b3 : (w2.alloc (.cells #[.int .i64 p0, .int .i64 p1, .int .i64 p2, .int .i64 1, .int .i64 (n : Int)] 38)).cell? ⟨mb, mo + (n + 3), none⟩ = some (.int .u8 (mem.getD (n + 3) 0 : Nat)) := by rw [← Nat.add_assoc]; exact HCe.out 3 (by omega)
          have HW := Lib.hid (revK_lt HBy.out n 0); have HBk := Lib.hid (HBy.out (n + 3))
          have hnj : (n : Int) + 3 < (mem.length : Int) := by omega
          have hn0 : (0 : Int) ≤ (n : Int) + 3 := by omega
          clear hb
          go_wp2_with fail
          go_round
          case rel =>
            refine ⟨1, by omega, by go_num, ?_⟩
            exact rstep0 HW.out HBk.out
          case measure => simp [intOf]
        · have b2 : (w2.alloc (.cells #[.int .i64 p0, .int .i64 p1, .int .i64 p2, .int .i64 1, .int .i64 (n : Int)] 38)).cell? ⟨mb, mo + (n + 2), none⟩ = some (.int .u8 (mem.getD (n + 2) 0 : Nat)) := by rw [← Nat.add_assoc]; exact HCe.out 2 (by omega)
          have HW := Lib.hid (revK_lt HBy.out n 1); have HBk := Lib.hid (HBy.out (n + 2))
          have hnj : (n : Int) + 2 < (mem.length : Int) := by omega
          have hn0 : (0 : Int) ≤ (n : Int) + 2 := by omega
          clear hb
          go_wp2_with fail
          go_round
          case rel =>
            refine ⟨2, by omega, by go_num, ?_⟩
            exact rstep1 HW.out HBk.out
          case measure => simp [intOf]
        · have b1 : (w2.alloc (.cells #[.int .i64 p0, .int .i64 p1, .int .i64 p2, .int .i64 1, .int .i64 (n : Int)] 38)).cell? ⟨mb, mo + (n + 1), none⟩ = some (.int .u8 (mem.getD (n + 1) 0 : Nat)) := by rw [← Nat.add_assoc]; exact HCe.out 1 (by omega)
          have HW := Lib.hid (revK_lt HBy.out n 2); have HBk := Lib.hid (HBy.out (n + 1))
          have hnj : (n : Int) + 1 < (mem.length : Int) := by omega
          have hn0 : (0 : Int) ≤ (n : Int) + 1 := by omega
          clear hb
          go_wp2_with fail
          go_round
          case rel =>
            refine ⟨3, by omega, by go_num, ?_⟩
            exact rstep2 HW.out HBk.out
          case measure => simp [intOf]
        · have b0 : (w2.alloc (.cells #[.int .i64 p0, .int .i64 p1, .int .i64 p2, .int .i64 1, .int .i64 (n : Int)] 38)).cell? ⟨mb, mo + n, none⟩ = some (.int .u8 (mem.getD (n + 0) 0 : Nat)) := HCe.out 0 (by omega)
          have HW := Lib.hid (revK_lt HBy.out n 3); have HBk := Lib.hid (HBy.out (n + 0))
          have hnj : (n : Int) + 0 < (mem.length : Int) := by omega
          have hn0 : (0 : Int) ≤ (n : Int) + 0 := by omega
          clear hb
          go_wp2_with fail
          go_round
          case rel =>
            refine ⟨4, by omega, by go_num, ?_⟩
            exact rstep3 HW.out HBk.out
          case measure => simp [intOf]
        · have HW4 := Lib.hid (revK_four mem n)
          clear hb
          go_wp2_with fail
          exact bodyPost_ret (v := .tuple #[.int .u32 (revK mem n 4 : Nat), .bool true, .int .i64 0]) (by simp [results, Try.results35, go_sem]) rfl ⟨by rw [HW4.out], HB3.out⟩
  · obtain ⟨h1, h2, h3⟩ := HCo.out rfl rfl
    have hnb : n ≤ 4294967295 := by have : limK 2 = 4294967295 := rfl; rw [this] at g8; omega
    have htn : ((n : Int)).toNat = n := by omega
    simp only [htn] at h1
    subst h2; subst h3
    obtain rfl : n = VN := h1.symm
    have hwu : IntKind.u32.wrap (n : Int) = (n : Int) := by rw [IntKind.wrap_u32]; omega
    clear g0 g1 g2 g3 g4 g5 g6 g8 HNone HReg HCo HFar HWd HGo
    go_wp2_with fail
    exact bodyPost_ret (v := .tuple #[.int .u32 (n : Nat), .bool true, .int .i64 0]) (by simp [results, Try.results35, go_sem]) rfl ⟨rfl, HB3.out⟩
end Go.Proofs.Ytmhneonebjcieaa
