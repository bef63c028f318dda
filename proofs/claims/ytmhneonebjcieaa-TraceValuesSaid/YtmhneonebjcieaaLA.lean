/- The law TraceValues. -/
import Derived.Test.YtmhneonebjcieaaMY
import Derived.Test.YtmhneonebjcieaaL1
import Derived.Laws.Rows
namespace Go.Proofs.Ytmhneonebjcieaa
open Go.RowKit

theorem size36 : (Try.prog.info? 57).map (·.size) = some 36 := by kernel_rfl
theorem isRow57 {d : TypeDesc} (h : Try.prog.underlying 57 = some d) : (match d with | .struct _ | .array _ _ => true | _ => false) = true := by
  rw [Try.underlying57] at h
  cases h
  rfl
set_option maxRecDepth 100000 in
set_option maxHeartbeats 2000000 in
theorem traceValues_any (l : List Pl) (a : Option Addr) (cap : Nat) (C : Array Value) (R : Nat → Nat) (at0 : Nat) (ma : Option Addr) (mcap : Nat) (mem : List Nat) (v : Int) (w : World) (hin : PlsIn w a l) (hlc : l.length ≤ cap)
    (hC : MachV C R at0 ma mcap mem) (hmem : BytesIn w ma mem) :
    Calls Try.prog 11 #[.slice a l.length cap, .agg C, .int .i64 v] w fun e w' => e = .returned (.bool true) ∧ Below w.heap.size w w' := by
  have HK := Lib.hid known_any
  have hb0 : Below w.heap.size w (w.alloc (.cells C 57)) := (Below.refl _ _).alloc (Nat.le_refl _) _
  have HB0 := Lib.hid hb0
  have HM0 := Lib.hid (hC.box w)
  by_cases h100 : 100 < l.length
  · clear hin hmem hb0 hC
    go_enter Try.func11, Try.ntmps11
    go_wp2_with ((with_reducible refine (long_yes h100 a cap _).mono ?_); rintro e w1 ⟨rfl, rfl⟩)
    refine (HK.out _).mono ?_; rintro e w2 ⟨rfl, hb2⟩
    go_wp2_with fail
    go_ret
    exact ⟨rfl, HB0.out.trans (hb2.mono HB0.out.size)⟩
  have HLo := Lib.hid (long_no h100 a cap)
  have c34 := (hC.box w).memc
  by_cases hml : 40000 < mem.length
  · have hmi : (40000 : Int) < (mem.length : Int) := by omega
    clear hin hmem hb0 hC
    go_enter Try.func11, Try.ntmps11
    go_wp2_with fail
    refine (HLo.out _).mono ?_; rintro e w0 ⟨rfl, rfl⟩
    go_wp2_with fail
    refine (HK.out _).mono ?_; rintro e w2 ⟨rfl, hb2⟩
    go_wp2_with fail
    go_ret
    exact ⟨rfl, HB0.out.trans (hb2.mono HB0.out.size)⟩
  have hmi : ¬ (40000 : Int) < (mem.length : Int) := by omega
  have HV := Lib.hid (fun (w' : World) (hb : Below w.heap.size w w') => Value_any l a cap C R at0 ma mcap mem v w' (hin.below hb) hlc (by omega) hC (hmem.below hb) (by omega))
  have HR := Lib.hid (fun (w' : World) (hb : Below w.heap.size w w') => rValue_any l a cap C R at0 ma mcap mem v w' (hin.below hb) (by omega) hC (hmem.below hb) (by omega))
  have HSz : Hid ((Try.prog.info? 57).map (·.size) = some C.size) := Lib.hid (by rw [hC.size]; exact size36)
  have HBlk0 : Hid ((w.alloc (.cells C 57)).heap[w.heap.size]? = some (.cells C 57 (0, 0))) := Lib.hid (heap_at _ _ _ rfl)
  have hnn : (((valN l v R at0 mem : Nat) : Int) == ((valN l v R at0 mem : Nat) : Int)) = true := by simp
  have hbb : (valB l v at0 mem == valB l v at0 mem) = true := by simp
  have hrr : (valR l v at0 mem == valR l v at0 mem) = true := by simp
  clear hin hmem hb0 hC
  generalize valN l v R at0 mem = VN at *
  generalize valB l v at0 mem = VB at *
  generalize valR l v at0 mem = VR at *
  go_enter Try.func11, Try.ntmps11
  go_wp2_with fail
  refine (HLo.out _).mono ?_; rintro e w0 ⟨rfl, rfl⟩
  go_wp2_with (refine wpList_load_row rfl 57 _ rfl w.heap.size rfl 57 C (0, 0) _ HBlk0.out Try.underlying57 rfl HSz.out ?_)
  refine (HV.out _ HB0.out).mono ?_; rintro e w1 ⟨rfl, hb1⟩
  have HB1 := Lib.hid (HB0.out.trans (hb1.mono HB0.out.size))
  have HBlk1 : Hid (w1.heap[w.heap.size]? = some (.cells C 57 (0, 0))) := Lib.hid ((hb1.block _ (by simp)).trans HBlk0.out)
  clear hb1 c34
  go_wp2_with (refine wpList_load_row rfl 57 _ rfl w.heap.size rfl 57 C (0, 0) _ HBlk1.out Try.underlying57 rfl HSz.out ?_)
  refine (HR.out _ HB1.out).mono ?_; rintro e w2 ⟨rfl, hb2⟩
  have HB2 := Lib.hid (HB1.out.trans (hb2.mono HB1.out.size))
  clear hb2
  go_wp2_with fail
  refine (HK.out _).mono ?_; rintro e w6 ⟨rfl, hb6⟩
  go_wp2_with fail
  go_ret
  exact ⟨rfl, HB2.out.trans (hb6.mono HB2.out.size)⟩
end Go.Proofs.Ytmhneonebjcieaa
