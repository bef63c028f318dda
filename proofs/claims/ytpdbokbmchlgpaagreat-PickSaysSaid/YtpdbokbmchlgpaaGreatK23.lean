/- Packed of several texts. -/
import Derived.Test.YtpdbokbmchlgpaaGreatK20
import Derived.Test.YtpdbokbmchlgpaaGreatK21
import Derived.Test.YtpdbokbmchlgpaaGreatK22
import Derived.Test.YtpdbokbmchlgpaaGreatK00
import Derived.Deep.Cut
import Derived.Outline
import Derived.Test.YtpdbokbmchlgpaaGreatK05
namespace Go.Proofs.YtpdbokbmchlgpaaGreat.PK
open Go.RowKit

theorem shapeOf_any (F : Fun) (A : FunA) (x : Ins) (aa ta : Option Addr) (ca ct : Nat) (w : World) (ha : IntsIn w aa x.ar) (ht : IntsIn w ta x.tt) (him : x.im < 4294967296) (hsl : F.sl.length ≤ 1000) :
    Calls Tryz.prog 123 #[funV F A, insV x aa ta ca ct] w (ShapePost F x w) := by
  have hc := clsI_lo x.op
  have h : clsI x.op = 0 ∨ clsI x.op = 1 ∨ clsI x.op = 2 ∨ clsI x.op = 3 ∨ clsI x.op = 4 ∨ clsI x.op = 5 ∨ clsI x.op = 6 ∨ clsI x.op = 7 ∨ clsI x.op = 8 ∨ clsI x.op = 9 ∨ clsI x.op = 10 ∨ clsI x.op = 11 ∨ clsI x.op = 12 ∨ clsI x.op = 13 ∨ clsI x.op = 14 ∨ clsI x.op = 15 ∨ clsI x.op = 16 ∨ clsI x.op = 17 ∨ clsI x.op = 18 := by omega
  rcases h with h | h | h | h | h | h | h | h | h | h | h | h | h | h | h | h | h | h | h
  · exact shape0 F A x aa ta ca ct w ha ht h
  · exact shape1 F A x aa ta ca ct w ha ht h
  · exact shape2 F A x aa ta ca ct w ha ht h
  · exact shape3 F A x aa ta ca ct w ha ht h
  · exact shape4 F A x aa ta ca ct w ha ht h
  · exact shape5 F A x aa ta ca ct w ha ht h
  · exact shape6 F A x aa ta ca ct w ha ht h
  · exact shape7 F A x aa ta ca ct w ha ht h
  · exact shape8 F A x aa ta ca ct w ha ht h
  · exact shape9 F A x aa ta ca ct w ha ht h
  · exact shape10 F A x aa ta ca ct w ha ht him hsl h
  · exact shape11 F A x aa ta ca ct w ha ht h
  · exact shape12 F A x aa ta ca ct w ha ht h
  · exact shape13 F A x aa ta ca ct w ha ht h
  · exact shape14 F A x aa ta ca ct w ha ht h
  · exact shape15 F A x aa ta ca ct w ha ht h
  · exact shape16 F A x aa ta ca ct w ha ht h
  · exact shape17 F A x aa ta ca ct w ha ht h
  · exact shape18 F A x aa ta ca ct w ha ht h
end Go.Proofs.YtpdbokbmchlgpaaGreat.PK
namespace Go.Proofs.YtpdbokbmchlgpaaGreat.PK
open Go.RowKit

/-- The first number at which p holds, or -1. -/
def IdxI (l : List Int) (p : Int → Bool) (r : Int) : Prop := (r = -1 ∧ ∀ j, j < l.length → p (l.getD j 0) = false) ∨ (∃ k : Nat, k < l.length ∧ r = (k : Int) ∧ p (l.getD k 0) = true)
theorem IdxI.any {l : List Int} {p : Int → Bool} {r : Int} (h : IdxI l p r) : decide (0 ≤ r) = l.any p := by
  rcases h with ⟨rfl, h⟩ | ⟨k, hk, rfl, h⟩
  · have : l.any p = false := by
      rw [List.any_eq_false]
      intro x hx
      obtain ⟨j, hj, rfl⟩ := List.mem_iff_getElem.1 hx
      have := h j hj
      rw [List.getD_eq_getElem?_getD, List.getElem?_eq_getElem hj] at this
      rw [Bool.not_eq_true]; exact this
    rw [this]; rfl
  · have : l.any p = true := by
      rw [List.any_eq_true]
      refine ⟨l.getD k 0, ?_, h⟩
      rw [List.getD_eq_getElem?_getD, List.getElem?_eq_getElem hk]
      exact List.getElem_mem hk
    rw [this]; simp
def IdxIPost (l : List Int) (p : Int → Bool) (w : World) (e : Ending) (w' : World) : Prop := ∃ r : Int, e = .returned (.int .i64 r) ∧ IdxI l p r ∧ Below w.heap.size w w'
set_option maxHeartbeats 1000000 in
theorem idxI_any (g : Nat) (lb : Array Value) (eg : ∀ args w, (callFunc g args).run Tryz.prog w = .ok (.enter g args) w) (p : Int → Bool) (l : List Int) (a : Option Addr) (cap : Nat) (w : World) (hin : IntsIn w a l) (hl : (l.length : Int) ≤ 1099511627776)
    (hp : ∀ k W, k < l.length → Below w.heap.size w W → Calls Tryz.prog g (#[.int .i64 (l.getD k 0)] ++ lb) W fun e W' => e = .returned (.bool (p (l.getD k 0))) ∧ Below W.heap.size W W') :
    Calls Tryz.prog 116 #[.slice a l.length cap, .func (.func g) #[] lb] w (IdxIPost l p w) := by
  have HI := Lib.hid hin; have HP := Lib.hid hp
  clear hin hp
  go_enter Tryz.func116, Tryz.ntmps116
  go_wp2_with fail
  go_loopw [8] (fun i wr => ∃ k : Nat, k ≤ l.length ∧ i = .int .i64 k ∧ (∀ j, j < k → p (l.getD j 0) = false) ∧ Below w.heap.size w wr) (fun i _ => l.length - (intOf i).toNat)
  case atStart => exact ⟨0, Nat.zero_le _, rfl, fun j hj => absurd hj (Nat.not_lt_zero _), Below.refl _ _⟩
  case round =>
    obtain ⟨k, hk, rfl, hny, hb⟩ := hrel
    have HB := Lib.hid hb; have HN := Lib.hid hny; clear hny
    by_cases hlt : k < l.length
    · obtain ⟨b, off, rfl, hc⟩ := HI.out.below hb k hlt
      have HC := Lib.hid (HP.out k wr hlt hb)
      clear hb
      generalize hx : l.getD k 0 = x at *
      have HX := Lib.hid hx; clear hx
      cases hpx : p x
      · rw [hpx] at HC
        have HPX := Lib.hid hpx; clear hpx
        go_wp2_with (first | (go_at_fn g; refine HC.out.mono ?_; rintro e w2 ⟨rfl, hb2⟩))
        go_roundw
        case rel => exact ⟨k + 1, by omega, by go_num, fun j hj => by
          by_cases e : j = k
          · rw [e, HX.out]; exact HPX.out
          · exact HN.out j (by omega), HB.out.trans (hb2.mono HB.out.size)⟩
        case measure => simp [intOf]; omega
      · rw [hpx] at HC
        have HPX := Lib.hid hpx; clear hpx
        go_wp2_with (first | (go_at_fn g; refine HC.out.mono ?_; rintro e w2 ⟨rfl, hb2⟩))
        go_ret
        exact ⟨k, rfl, .inr ⟨k, hlt, rfl, by rw [HX.out]; exact HPX.out⟩, HB.out.trans (hb2.mono HB.out.size)⟩
    · clear hb
      go_wp2_with fail
      go_ret
      exact ⟨-1, rfl, .inl ⟨rfl, fun j hj => HN.out j (by omega)⟩, HB.out⟩
theorem conI_any (g : Nat) (lb : Array Value) (eg : ∀ args w, (callFunc g args).run Tryz.prog w = .ok (.enter g args) w) (p : Int → Bool) (l : List Int) (a : Option Addr) (cap : Nat) (w : World) (hin : IntsIn w a l) (hl : (l.length : Int) ≤ 1099511627776)
    (hp : ∀ k W, k < l.length → Below w.heap.size w W → Calls Tryz.prog g (#[.int .i64 (l.getD k 0)] ++ lb) W fun e W' => e = .returned (.bool (p (l.getD k 0))) ∧ Below W.heap.size W W') :
    Calls Tryz.prog 53 #[.slice a l.length cap, .func (.func g) #[] lb] w fun e w' => e = .returned (.bool (l.any p)) ∧ Below w.heap.size w w' := by
  have HC := Lib.hid (idxI_any g lb eg p l a cap w hin hl hp)
  clear hin hp eg
  go_enter Tryz.func53, Tryz.ntmps53
  go_wp2_with (first | (go_at_call 116; refine HC.out.mono ?_; rintro e w2 ⟨r, rfl, hr, hb2⟩; have HR := Lib.hid hr.any; clear hr))
  go_ret
  exact ⟨ret_bool HR.out, hb2⟩
end Go.Proofs.YtpdbokbmchlgpaaGreat.PK
namespace Go.Proofs.YtpdbokbmchlgpaaGreat.PK
open Go.RowKit

set_option maxHeartbeats 1000000 in
theorem shapedC_any (F : Fun) (q : Nat) (b : Int) (bl : Option Addr) (cap : Nat) (w : World) (h3 : w.cell? ⟨q, 3, none⟩ = some (.slice bl F.bs.length cap)) :
    Calls Tryz.prog 125 #[.int .i64 b, .pointer (some ⟨q, 0, none⟩)] w fun e w' => e = .returned (.bool (!decide (0 ≤ b ∧ b < F.bs.length))) ∧ Below w.heap.size w w' := by
  by_cases h0 : b < 0
  · have HR : Hid ((!decide (0 ≤ b ∧ b < F.bs.length)) = true) := Lib.hid (by simp; omega)
    rw [HR.out]
    go_enter Tryz.func125, Tryz.ntmps125
    go_wp2_with fail
    go_ret
    first | exact ⟨rfl, Below.refl _ _⟩ | exact ⟨ret_bool (by simp; omega), Below.refl _ _⟩ | exact ⟨ret_bool (by simp), Below.refl _ _⟩
  · by_cases h1 : b < (F.bs.length : Int)
    · have HR : Hid ((!decide (0 ≤ b ∧ b < F.bs.length)) = false) := Lib.hid (by simp; omega)
      rw [HR.out]
      go_enter Tryz.func125, Tryz.ntmps125
      go_wp2_with fail
      go_ret
      first | exact ⟨rfl, Below.refl _ _⟩ | exact ⟨ret_bool (by simp; omega), Below.refl _ _⟩ | exact ⟨ret_bool (by simp), Below.refl _ _⟩
    · have HR : Hid ((!decide (0 ≤ b ∧ b < F.bs.length)) = true) := Lib.hid (by simp; omega)
      rw [HR.out]
      go_enter Tryz.func125, Tryz.ntmps125
      go_wp2_with fail
      go_ret
      first | exact ⟨rfl, Below.refl _ _⟩ | exact ⟨ret_bool (by simp; omega), Below.refl _ _⟩ | exact ⟨ret_bool (by simp), Below.refl _ _⟩
theorem headP_any (k : Int) (w : World) : Calls Tryz.prog 119 #[.int .i64 k] w fun e w' => e = .returned (.bool (!isNum k)) ∧ Below w.heap.size w w' := by
  have HN := Lib.hid (isNumber_any k)
  generalize isNum k = nb at *
  go_enter Tryz.func119, Tryz.ntmps119
  go_wp2_with (go_at_call 120; refine (HN.out _).mono ?_; rintro e w' ⟨rfl, rfl⟩)
  go_ret
  first | exact ⟨rfl, Below.refl _ _⟩ | exact ⟨ret_bool (by simp; omega), Below.refl _ _⟩ | exact ⟨ret_bool (by simp), Below.refl _ _⟩
theorem headS_any (k : Int) (w : World) : Calls Tryz.prog 121 #[.int .i64 k] w fun e w' => e = .returned (.bool (!decide (1 ≤ k ∧ k ≤ 8))) ∧ Below w.heap.size w w' := by
  by_cases h0 : k < 1
  · have HR : Hid ((!decide (1 ≤ k ∧ k ≤ 8)) = true) := Lib.hid (by simp; omega)
    rw [HR.out]
    go_enter Tryz.func121, Tryz.ntmps121
    go_wp2_with fail
    go_ret
    first | exact ⟨rfl, Below.refl _ _⟩ | exact ⟨ret_bool (by simp; omega), Below.refl _ _⟩ | exact ⟨ret_bool (by simp), Below.refl _ _⟩
  · by_cases h1 : k ≤ 8
    · have HR : Hid ((!decide (1 ≤ k ∧ k ≤ 8)) = false) := Lib.hid (by simp; omega)
      rw [HR.out]
      go_enter Tryz.func121, Tryz.ntmps121
      go_wp2_with fail
      go_ret
      first | exact ⟨rfl, Below.refl _ _⟩ | exact ⟨ret_bool (by simp; omega), Below.refl _ _⟩ | exact ⟨ret_bool (by simp), Below.refl _ _⟩
    · have HR : Hid ((!decide (1 ≤ k ∧ k ≤ 8)) = true) := Lib.hid (by simp; omega)
      rw [HR.out]
      go_enter Tryz.func121, Tryz.ntmps121
      go_wp2_with fail
      go_ret
      first | exact ⟨rfl, Below.refl _ _⟩ | exact ⟨ret_bool (by simp; omega), Below.refl _ _⟩ | exact ⟨ret_bool (by simp), Below.refl _ _⟩
end Go.Proofs.YtpdbokbmchlgpaaGreat.PK
namespace Go.Proofs.YtpdbokbmchlgpaaGreat.PK
open Go.RowKit

/-- What a function has besides its blocks is right. -/
def headB (F : Fun) : Bool := (F.ps.all isNum && decide (0 ≤ F.ret ∧ F.ret ≤ 32)) && F.sl.all fun k => decide (1 ≤ k ∧ k ≤ 8)
theorem hp_enter : ∀ args w, (callFunc 119 args).run Tryz.prog w = .ok (.enter 119 args) w := enters_of Tryz.func119 (by kernel_rfl) rfl
theorem hs_enter : ∀ args w, (callFunc 121 args).run Tryz.prog w = .ok (.enter 121 args) w := enters_of Tryz.func121 (by kernel_rfl) rfl
set_option maxHeartbeats 4000000 in
theorem isHead_any (F : Fun) (A : FunA) (w : World) (hp : IntsIn w A.pa F.ps) (hs : IntsIn w A.sa F.sl) (hpl : (F.ps.length : Int) ≤ 1099511627776) (hsl : (F.sl.length : Int) ≤ 1099511627776) :
    Calls Tryz.prog 57 #[funV F A] w fun e w' => e = .returned (.bool (headB F)) ∧ Below w.heap.size w w' := by
  have HP : Hid (∀ W, Below w.heap.size w W → Calls Tryz.prog 53 #[.slice A.pa F.ps.length A.pc, .func (.func 119) #[] #[]] W fun e w' => e = .returned (.bool (F.ps.any fun k => !isNum k)) ∧ Below W.heap.size W w') := Lib.hid (fun W hb => conI_any 119 #[] hp_enter (fun k => !isNum k) F.ps A.pa A.pc W (hp.below hb) hpl (fun k W' _ _ => headP_any _ W'))
  have HS : Hid (∀ W, Below w.heap.size w W → Calls Tryz.prog 53 #[.slice A.sa F.sl.length A.sc, .func (.func 121) #[] #[]] W fun e w' => e = .returned (.bool (F.sl.any fun k => !decide (1 ≤ k ∧ k ≤ 8))) ∧ Below W.heap.size W w') := Lib.hid (fun W hb => conI_any 121 #[] hs_enter (fun k => !decide (1 ≤ k ∧ k ≤ 8)) F.sl A.sa A.sc W (hs.below hb) hsl (fun k W' _ _ => headS_any _ W'))
  have hH : headB F = ((!(F.ps.any fun k => !isNum k) && decide (0 ≤ F.ret ∧ F.ret ≤ 32)) && !(F.sl.any fun k => !decide (1 ≤ k ∧ k ≤ 8))) := by
    unfold headB
    rw [List.not_any_eq_all_not, List.not_any_eq_all_not]
    simp
  clear hp hs
  generalize (F.ps.any fun k => !isNum k) = pb at *
  generalize (F.sl.any fun k => !decide (1 ≤ k ∧ k ≤ 8)) = sb at *
  generalize headB F = hb at *
  simp only [funV, funC]
  generalize F.ret = r at *
  have HH := Lib.hid hH; clear hH
  go_enter Tryz.func57, Tryz.ntmps57
  go_upto_region 1 with fail
  have HB : Hid (Below w.heap.size w (w.alloc (.cells #[.slice A.pa F.ps.length A.pc, .int .i64 r, .slice A.sa F.sl.length A.sc, .slice A.ba F.bs.length A.bc] 25))) := Lib.hid ((Below.refl _ _).alloc (Nat.le_refl _) _)
  have c0 : (w.alloc (.cells #[.slice A.pa F.ps.length A.pc, .int .i64 r, .slice A.sa F.sl.length A.sc, .slice A.ba F.bs.length A.bc] 25)).cell? ⟨w.heap.size, 0, none⟩ = some (.slice A.pa F.ps.length A.pc) := by simp [go_sem]
  have c1 : (w.alloc (.cells #[.slice A.pa F.ps.length A.pc, .int .i64 r, .slice A.sa F.sl.length A.sc, .slice A.ba F.bs.length A.bc] 25)).cell? ⟨w.heap.size, 1, none⟩ = some (.int .i64 r) := by simp [go_sem]
  have c2 : (w.alloc (.cells #[.slice A.pa F.ps.length A.pc, .int .i64 r, .slice A.sa F.sl.length A.sc, .slice A.ba F.bs.length A.bc] 25)).cell? ⟨w.heap.size, 2, none⟩ = some (.slice A.sa F.sl.length A.sc) := by simp [go_sem]
  generalize (w.alloc (.cells #[.slice A.pa F.ps.length A.pc, .int .i64 r, .slice A.sa F.sl.length A.sc, .slice A.ba F.bs.length A.bc] 25)) = w1 at *
  cases pb
  · by_cases h0 : r < 0
    · have HR0 := Lib.hid h0
      obtain rfl : hb = false := by rw [HH.out]; simp; try omega
      go_wp2_with (first | (go_at_call 53; refine (HP.out _ HB.out).mono ?_; rintro e w2 ⟨rfl, hb2⟩; have d0 := keep c0 hb2; have d1 := keep c1 hb2; have d2 := keep c2 hb2; have HB2 := Lib.hid (HB.out.trans (hb2.mono HB.out.size)); clear hb2 HB) | (go_at_call 53; refine (HS.out _ HB2.out).mono ?_; rintro e w3 ⟨rfl, hb3⟩))
      go_ret
      exact ⟨rfl, HB2.out⟩
    · by_cases h1 : 32 < r
      · skip
        obtain rfl : hb = false := by rw [HH.out]; simp; try omega
        go_wp2_with (first | (go_at_call 53; refine (HP.out _ HB.out).mono ?_; rintro e w2 ⟨rfl, hb2⟩; have d0 := keep c0 hb2; have d1 := keep c1 hb2; have d2 := keep c2 hb2; have HB2 := Lib.hid (HB.out.trans (hb2.mono HB.out.size)); clear hb2 HB) | (go_at_call 53; refine (HS.out _ HB2.out).mono ?_; rintro e w3 ⟨rfl, hb3⟩))
        go_ret
        exact ⟨rfl, HB2.out⟩
      · have hr : decide (0 ≤ r ∧ r ≤ 32) = true := by simp; omega
        rw [hr] at HH; clear hr
        cases sb
        · skip
          obtain rfl : hb = true := by rw [HH.out]; simp; try omega
          go_wp2_with (first | (go_at_call 53; refine (HP.out _ HB.out).mono ?_; rintro e w2 ⟨rfl, hb2⟩; have d0 := keep c0 hb2; have d1 := keep c1 hb2; have d2 := keep c2 hb2; have HB2 := Lib.hid (HB.out.trans (hb2.mono HB.out.size)); clear hb2 HB) | (go_at_call 53; refine (HS.out _ HB2.out).mono ?_; rintro e w3 ⟨rfl, hb3⟩))
          go_ret
          exact ⟨rfl, HB2.out.trans (hb3.mono HB2.out.size)⟩
        · skip
          obtain rfl : hb = false := by rw [HH.out]; simp; try omega
          go_wp2_with (first | (go_at_call 53; refine (HP.out _ HB.out).mono ?_; rintro e w2 ⟨rfl, hb2⟩; have d0 := keep c0 hb2; have d1 := keep c1 hb2; have d2 := keep c2 hb2; have HB2 := Lib.hid (HB.out.trans (hb2.mono HB.out.size)); clear hb2 HB) | (go_at_call 53; refine (HS.out _ HB2.out).mono ?_; rintro e w3 ⟨rfl, hb3⟩))
          go_ret
          exact ⟨rfl, HB2.out.trans (hb3.mono HB2.out.size)⟩
  · skip
    obtain rfl : hb = false := by rw [HH.out]; simp; try omega
    go_wp2_with (first | (go_at_call 53; refine (HP.out _ HB.out).mono ?_; rintro e w2 ⟨rfl, hb2⟩; have d0 := keep c0 hb2; have d1 := keep c1 hb2; have d2 := keep c2 hb2; have HB2 := Lib.hid (HB.out.trans (hb2.mono HB.out.size)); clear hb2 HB) | (go_at_call 53; refine (HS.out _ HB2.out).mono ?_; rintro e w3 ⟨rfl, hb3⟩))
    go_ret
    exact ⟨rfl, HB2.out⟩
end Go.Proofs.YtpdbokbmchlgpaaGreat.PK
