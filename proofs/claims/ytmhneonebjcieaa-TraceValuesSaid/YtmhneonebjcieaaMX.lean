/- The walk of Value of the program. -/
import Derived.Test.YtmhneonebjcieaaMV
namespace Go.Proofs.Ytmhneonebjcieaa
open Go.RowKit

def wordK (mem : List Nat) (n : Nat) : Nat → Nat
  | 0 => 0
  | k + 1 => wordK mem n k + mem.getD (n + k) 0 * 256 ^ k
theorem wordK_four (mem : List Nat) (n : Nat) : wordK mem n 4 = wordM mem n := by
  show 0 + mem.getD (n + 0) 0 * 256 ^ 0 + mem.getD (n + 1) 0 * 256 ^ 1 + mem.getD (n + 2) 0 * 256 ^ 2 + mem.getD (n + 3) 0 * 256 ^ 3 = _
  unfold wordM
  rw [Nat.add_zero]
  omega
theorem byteM {mem : List Nat} (h : ∀ x ∈ mem, x < 256) (k : Nat) : mem.getD k 0 < 256 := by
  rw [List.getD_eq_getElem?_getD]
  cases hk : mem[k]? with
  | none => simp
  | some x => exact h x (List.mem_of_getElem? hk)
theorem wordK_lt {mem : List Nat} (h : ∀ k, mem.getD k 0 < 256) (n : Nat) : ∀ k, wordK mem n k < 256 ^ k
  | 0 => by show 0 < 256 ^ 0; decide
  | k + 1 => by
    have ih := wordK_lt h n k
    have hb := h (n + k)
    show wordK mem n k + mem.getD (n + k) 0 * 256 ^ k < 256 ^ (k + 1)
    have : mem.getD (n + k) 0 * 256 ^ k ≤ 255 * 256 ^ k := Nat.mul_le_mul_right _ (by omega)
    rw [Nat.pow_succ]; omega
theorem wraps32 (n : Int) (h₀ : 0 ≤ n) (h₁ : n < 2 ^ 32) : IntKind.u32.wrap n = n := by rw [IntKind.wrap_u32]; omega
theorem or_at (i : Nat) (A B : Nat) (hA : (A : Int) < 2 ^ i) (hA2 : (A : Int) < 2 ^ 32) (hB : (B : Int) % 2 ^ i = 0) (hB2 : (B : Int) < 2 ^ 32) : bits .or .u32 (A : Int) (B : Int) = ((A + B : Nat) : Int) := by
  rw [bits_join_low .u32 32 (by decide) wraps32 i (A : Int) (B : Int) (by omega) hA hA2 (by omega) hB hB2]; omega
theorem wstep0 {mem : List Nat} {n : Nat} (hA : wordK mem n 0 < 256 ^ 0) (hb : mem.getD (n + 0) 0 < 256) : Value.int .u32 (bits .or .u32 (wordK mem n 0 : Nat) (((mem.getD (n + 0) 0 : Nat) : Int) % 4294967296)) = .int .u32 (wordK mem n 1 : Nat) := by
  have e : wordK mem n 1 = wordK mem n 0 + mem.getD (n + 0) 0 * 1 := rfl
  rw [e]
  generalize wordK mem n 0 = A at *
  generalize mem.getD (n + 0) 0 = b at *
  have hA : A < 1 := hA
  rw [show (b : Int) % 4294967296 = ((b * 1 : Nat) : Int) by omega]
  rw [or_at 0 A (b * 1) (by omega) (by omega) (by omega) (by omega)]
theorem wstep1 {mem : List Nat} {n : Nat} (hA : wordK mem n 1 < 256 ^ 1) (hb : mem.getD (n + 1) 0 < 256) : Value.int .u32 (bits .or .u32 (wordK mem n 1 : Nat) ((((mem.getD (n + 1) 0 : Nat) : Int) % 4294967296 * 256 % 4294967296))) = .int .u32 (wordK mem n 2 : Nat) := by
  have e : wordK mem n 2 = wordK mem n 1 + mem.getD (n + 1) 0 * 256 := rfl
  rw [e]
  generalize wordK mem n 1 = A at *
  generalize mem.getD (n + 1) 0 = b at *
  have hA : A < 256 := hA
  rw [show ((b : Int) % 4294967296 * 256 % 4294967296) = ((b * 256 : Nat) : Int) by omega]
  rw [or_at 8 A (b * 256) (by omega) (by omega) (by omega) (by omega)]
theorem wstep2 {mem : List Nat} {n : Nat} (hA : wordK mem n 2 < 256 ^ 2) (hb : mem.getD (n + 2) 0 < 256) : Value.int .u32 (bits .or .u32 (wordK mem n 2 : Nat) ((((mem.getD (n + 2) 0 : Nat) : Int) % 4294967296 * 65536 % 4294967296))) = .int .u32 (wordK mem n 3 : Nat) := by
  have e : wordK mem n 3 = wordK mem n 2 + mem.getD (n + 2) 0 * 65536 := rfl
  rw [e]
  generalize wordK mem n 2 = A at *
  generalize mem.getD (n + 2) 0 = b at *
  have hA : A < 65536 := hA
  rw [show ((b : Int) % 4294967296 * 65536 % 4294967296) = ((b * 65536 : Nat) : Int) by omega]
  rw [or_at 16 A (b * 65536) (by omega) (by omega) (by omega) (by omega)]
theorem wstep3 {mem : List Nat} {n : Nat} (hA : wordK mem n 3 < 256 ^ 3) (hb : mem.getD (n + 3) 0 < 256) : Value.int .u32 (bits .or .u32 (wordK mem n 3 : Nat) ((((mem.getD (n + 3) 0 : Nat) : Int) % 4294967296 * 16777216 % 4294967296))) = .int .u32 (wordK mem n 4 : Nat) := by
  have e : wordK mem n 4 = wordK mem n 3 + mem.getD (n + 3) 0 * 16777216 := rfl
  rw [e]
  generalize wordK mem n 3 = A at *
  generalize mem.getD (n + 3) 0 = b at *
  have hA : A < 16777216 := hA
  rw [show ((b : Int) % 4294967296 * 16777216 % 4294967296) = ((b * 16777216 : Nat) : Int) by omega]
  rw [or_at 24 A (b * 16777216) (by omega) (by omega) (by omega) (by omega)]
set_option maxRecDepth 100000 in
set_option maxHeartbeats 4000000 in
theorem Value_any (l : List Pl) (a : Option Addr) (cap : Nat) (C : Array Value) (R : Nat → Nat) (at0 : Nat) (ma : Option Addr) (mcap : Nat) (mem : List Nat) (v : Int) (w : World) (hin : PlsIn w a l) (hlc : l.length ≤ cap) (hl : l.length ≤ 1000)
    (hC : MachV C R at0 ma mcap mem) (hmem : BytesIn w ma mem) (hml : mem.length ≤ 40000) :
    Calls Try.prog 34 #[.slice a l.length cap, .agg C, .int .i64 v] w fun e w' => e = .returned (.tuple #[.int .u32 (valN l v R at0 mem : Nat), .bool (valB l v at0 mem), .int .i64 (valR l v at0 mem)]) ∧ Below w.heap.size w w' := by
  have hb1 : Below w.heap.size w (w.alloc (.cells C 57)) := (Below.refl _ _).alloc (Nat.le_refl _) _
  have HM1 := Lib.hid (hC.box w)
  have HA := Lib.hid (asked_any l a cap v [] none 0 _ (hin.below hb1) hlc hl (fun k hk => absurd hk (Nat.not_lt_zero _)) (by simp))
  have HB1 := Lib.hid hb1; have HI := Lib.hid hin; have HMem := Lib.hid hmem
  have HV := Lib.hid (fun n b e (h : ValOf l v R at0 mem n b e) => And.intro h.n (And.intro h.b h.e))
  have HTab := Lib.hid (fun h => @asked_good l v [] h)
  have hat := hC.at1
  have HC := Lib.hid hC
  clear hin hmem hb1 hC
  by_cases hE : askedE l v [] = 0
  rotate_left
  · obtain ⟨h1, h2, h3⟩ := HV.out _ _ _ (val_asked hE)
    rw [h1, h2, h3]
    have hne : (askedE l v [] != 0) = true := bne_iff_ne.2 hE
    generalize askedE l v [] = E at *
    clear hE h1 h2 h3 HV
    go_enter Try.func34, Try.ntmps34
    go_wp2_with fail
    refine HA.out.mono ?_; rintro e w1 ⟨rfl, hb2⟩
    have HB2 := Lib.hid (HB1.out.trans (hb2.mono HB1.out.size))
    clear hb2
    go_wp2_with fail
    exact bodyPost_ret (v := .tuple #[.int .u32 0, .bool false, .int .i64 E]) (by simp [results, Try.results34, go_sem]) rfl ⟨rfl, HB2.out⟩
  have HT := Lib.hid (HTab.out hE)
  have HF := Lib.hid (fun (w' : World) (hb : Below w.heap.size w w') => find_any l a cap v (at0 : Int) w' (HI.out.below hb) hl (fun k hk => HT.out.good k hk))
  have HE := Lib.hid hE
  rw [hE] at HA
  have HNone := Lib.hid (fun h => HV.out _ _ _ (val_none hE h))
  have HReg := Lib.hid (fun h k => HV.out _ _ _ (val_reg hE h k))
  have HCo := Lib.hid (fun h k => HV.out _ _ _ (val_const hE h k))
  have HFar := Lib.hid (fun h k m => HV.out _ _ _ (val_far hE h k m))
  have HWd := Lib.hid (fun h k m => HV.out _ _ _ (val_word hE h k m))
  have HGo := Lib.hid (fun h => HT.out.mem (found_spec' (l := l) (v := v) (a := at0) h))
  clear HV HTab hE
  generalize valN l v R at0 mem = VN at *
  generalize valB l v at0 mem = VB at *
  generalize valR l v at0 mem = VR at *
  generalize isFound l v at0 = fb at *
  generalize foundP l v at0 = p at *
  obtain ⟨p0, p1, p2, p3, p4⟩ := p
  have hw64 : IntKind.i64.wrap (at0 : Int) = (at0 : Int) := IntWalk.i64_in _ (by omega)
  go_enter Try.func34, Try.ntmps34
  go_wp2_with fail
  refine HA.out.mono ?_; rintro e w1 ⟨rfl, hb2⟩
  have HB2 := Lib.hid (HB1.out.trans (hb2.mono HB1.out.size))
  have HM2 := Lib.hid (HM1.out.keep hb2)
  have c33 := HM2.out.atc
  clear hb2
  go_wp2_with fail
  refine (HF.out _ HB2.out).mono ?_; rintro e w2 ⟨rfl, hb3⟩
  have HB3 := Lib.hid ((HB2.out.trans (hb3.mono HB2.out.size)).alloc (Nat.le_trans HB2.out.size hb3.size) (.cells #[.int .i64 p0, .int .i64 p1, .int .i64 p2, .int .i64 p3, .int .i64 p4] 38))
  have hal : Below w1.heap.size w1 (w2.alloc (.cells #[.int .i64 p0, .int .i64 p1, .int .i64 p2, .int .i64 p3, .int .i64 p4] 38)) := hb3.alloc hb3.size _
  have HM3 := Lib.hid (HM2.out.keep hal)
  have HMem3 := Lib.hid (HMem.out.below HB3.out)
  obtain ⟨c0, c1, c2, c3, c4⟩ : PlAt (w2.alloc (.cells #[.int .i64 p0, .int .i64 p1, .int .i64 p2, .int .i64 p3, .int .i64 p4] 38)) w2.heap.size 0 ⟨p0, p1, p2, p3, p4⟩ := ⟨by simp [go_sem], by simp [go_sem], by simp [go_sem], by simp [go_sem], by simp [go_sem]⟩
  simp only at c0 c1 c2 c3 c4
  clear hb3 hal c33
  cases fb
  · obtain ⟨rfl, rfl, rfl⟩ := HNone.out rfl
    go_wp2_with fail
    exact bodyPost_ret (v := .tuple #[.int .u32 0, .bool false, .int .i64 0]) (by simp [results, Try.results34, go_sem]) rfl ⟨rfl, HB3.out⟩
  obtain ⟨g0, g1, g2, g3, g4, g5, g6, g7, g8⟩ := HGo.out rfl
  simp only at g0 g1 g2 g3 g4 g5 g6 g7 g8
  obtain ⟨n, rfl⟩ := Int.eq_ofNat_of_zero_le g7
  have hk3 : p3 = 0 ∨ p3 = 1 ∨ p3 = 2 := by omega
  rcases hk3 with rfl | rfl | rfl
  · obtain ⟨h1, h2, h3⟩ := HReg.out rfl rfl
    have hn31 : n ≤ 31 := by have : limK 0 = 31 := rfl; rw [this] at g8; omega
    have hni : (n : Int) < 32 := by omega
    have cr := HM3.out.reg n (by omega)
    have htn : ((n : Int)).toNat = n := by omega
    simp only [htn] at h1
    subst h2; subst h3
    obtain rfl : R n = VN := h1.symm
    clear g0 g1 g2 g3 g4 g5 g6 g8 HNone HReg HCo HFar HWd HGo
    go_wp2_with fail
    exact bodyPost_ret (v := .tuple #[.int .u32 (R n : Nat), .bool true, .int .i64 0]) (by simp [results, Try.results34, go_sem]) rfl ⟨rfl, HB3.out⟩
  · by_cases hfar : (mem.length : Int) < (n : Int) + 4
    · obtain ⟨rfl, rfl, rfl⟩ := HFar.out rfl rfl hfar
      have cm := HM3.out.memc
      have hn9 : n ≤ 40000 := by have : limK 1 = 32764 := rfl; rw [this] at g8; omega
      clear g0 g1 g2 g3 g4 g5 g6 g8 HNone HReg HCo HWd HGo HFar
      go_wp2_with fail
      exact bodyPost_ret (v := .tuple #[.int .u32 0, .bool false, .int .i64 4]) (by simp [results, Try.results34, go_sem]) rfl ⟨rfl, HB3.out⟩
    · obtain ⟨h1, h2, h3⟩ := HWd.out rfl rfl (by omega)
      have htn : ((n : Int)).toNat = n := by omega
      simp only [htn] at h1
      subst h2; subst h3
      obtain rfl : wordM mem n = VN := h1.symm
      have cm := HM3.out.memc
      have hlc := HC.out.lenc
      have hn9 : n + 4 ≤ mem.length := by omega
      have hnl : n ≤ 40000 := by omega
      obtain ⟨mb, mo, rfl, b0⟩ := HMem3.out n (by omega)
      clear g0 g1 g2 g3 g4 g5 g6 g8 HNone HReg HCo HWd HGo HFar
      have HBy : Hid (∀ k, mem.getD k 0 < 256) := Lib.hid (byteM HC.out.byte)
      have HCe : Hid (∀ k, k < 4 → (w2.alloc (.cells #[.int .i64 p0, .int .i64 p1, .int .i64 p2, .int .i64 1, .int .i64 (n : Int)] 38)).cell? ⟨mb, mo + n + k, none⟩ = some (.int .u8 (mem.getD (n + k) 0 : Nat))) := Lib.hid fun k hk => by
        obtain ⟨mb', mo', e, hc⟩ := HMem3.out (n + k) (by omega)
        simp only [Option.some.injEq, Addr.mk.injEq, and_true] at e
        obtain ⟨rfl, rfl⟩ := e
        rw [Nat.add_assoc]; exact hc
      clear b0
      go_wp2_with fail
      go_loop [12, 66] (fun acc i => ∃ k : Nat, k ≤ 4 ∧ i = .int .i64 k ∧ acc = .int .u32 (wordK mem n k : Nat)) (fun _ i => 4 - (intOf i).toNat)
      case atStart => exact ⟨0, Nat.zero_le _, rfl, rfl⟩
      case round =>
        obtain ⟨k, hk, rfl, rfl⟩ := hrel
        have hb := HBy.out
        have hk4 : k = 0 ∨ k = 1 ∨ k = 2 ∨ k = 3 ∨ k = 4 := by omega
        rcases hk4 with rfl | rfl | rfl | rfl | rfl
        · have b0 : (w2.alloc (.cells #[.int .i64 p0, .int .i64 p1, .int .i64 p2, .int .i64 1, .int .i64 (n : Int)] 38)).cell? ⟨mb, mo + n, none⟩ = some (.int .u8 (mem.getD (n + 0) 0 : Nat)) := HCe.out 0 (by omega)
          have HW := Lib.hid (wordK_lt HBy.out n 0); have HBk := Lib.hid (HBy.out (n + 0))
          clear hb
          go_wp2_with fail
          go_round
          case rel =>
            refine ⟨1, by omega, by go_num, ?_⟩
            exact wstep0 HW.out HBk.out
          case measure => simp [intOf]
        · have b1 := HCe.out 1 (by omega)
          have HW := Lib.hid (wordK_lt HBy.out n 1); have HBk := Lib.hid (HBy.out (n + 1))
          clear hb
          go_wp2_with fail
          go_round
          case rel =>
            refine ⟨2, by omega, by go_num, ?_⟩
            exact wstep1 HW.out HBk.out
          case measure => simp [intOf]
        · have b2 := HCe.out 2 (by omega)
          have HW := Lib.hid (wordK_lt HBy.out n 2); have HBk := Lib.hid (HBy.out (n + 2))
          clear hb
          go_wp2_with fail
          go_round
          case rel =>
            refine ⟨3, by omega, by go_num, ?_⟩
            exact wstep2 HW.out HBk.out
          case measure => simp [intOf]
        · have b3 := HCe.out 3 (by omega)
          have HW := Lib.hid (wordK_lt HBy.out n 3); have HBk := Lib.hid (HBy.out (n + 3))
          clear hb
          go_wp2_with fail
          go_round
          case rel =>
            refine ⟨4, by omega, by go_num, ?_⟩
            exact wstep3 HW.out HBk.out
          case measure => simp [intOf]
        · have HW4 := Lib.hid (wordK_four mem n)
          clear hb
          go_wp2_with fail
          exact bodyPost_ret (v := .tuple #[.int .u32 (wordK mem n 4 : Nat), .bool true, .int .i64 0]) (by simp [results, Try.results34, go_sem]) rfl ⟨by rw [HW4.out], HB3.out⟩
  · obtain ⟨h1, h2, h3⟩ := HCo.out rfl rfl
    have hnb : n ≤ 4294967295 := by have : limK 2 = 4294967295 := rfl; rw [this] at g8; omega
    have htn : ((n : Int)).toNat = n := by omega
    simp only [htn] at h1
    subst h2; subst h3
    obtain rfl : n = VN := h1.symm
    have hwu : IntKind.u32.wrap (n : Int) = (n : Int) := by rw [IntKind.wrap_u32]; omega
    clear g0 g1 g2 g3 g4 g5 g6 g8 HNone HReg HCo HFar HWd HGo
    go_wp2_with fail
    exact bodyPost_ret (v := .tuple #[.int .u32 (n : Nat), .bool true, .int .i64 0]) (by simp [results, Try.results34, go_sem]) rfl ⟨rfl, HB3.out⟩
end Go.Proofs.Ytmhneonebjcieaa
