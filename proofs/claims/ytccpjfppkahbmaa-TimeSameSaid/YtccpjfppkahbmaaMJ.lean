/- The walk of the specification's Execute, out of Watch's. -/
import Derived.Test.YtccpjfppkahbmaaM1
import Derived.Test.YtccpjfppkahbmaaMI
namespace Go.Proofs.Ytccpjfppkahbmaa.PK
open Go.RowKit

/-- What Watch answers at right programs, where no address is watched. -/
def WatchOK : Prop := ∀ (regs : Int) (ls : List (List Cd)) (bl : Option Addr) (cap : Nat) (mem : List Int) (ma : Option Addr) (mcap most : Nat) (w : World), BlkIn w bl ls → progErr regs ls = 0 → BIn w ma mem → (∀ x ∈ mem, isB x) → 0 < mem.length → mem.length ≤ 32768 → most ≤ 200000 →
  (∀ k i, k < ls.length → i < (atB ls k).length → (atC (atB ls k) i).im < 4294967296) →
    Calls Try.prog 52 #[.agg #[.int .i64 regs, .slice bl ls.length cap], .slice ma mem.length mcap, .int .i64 most, .int .i64 0, .int .i64 0] w (WatchPost (runM ls 0 0 most ⟨List.replicate regs.toNat 0, mem, 0, 0, false⟩ 0) w)
def ExecPost (r : List Int × Int × Nat × Bool) (w : World) (e : Ending) (w' : World) : Prop :=
  (∃ g cap, e = .returned (.tuple #[.slice (some ⟨g, 0, none⟩) r.1.length cap, .int .i64 r.2.1, .int .i64 r.2.2.1, .int .i64 0]) ∧ w'.ownsRow w.heap.size 5 1 (.slice (some ⟨g, 0, none⟩) r.1.length cap) r.1.length (encB r.1)) ∧ Below w.heap.size w w'
set_option maxRecDepth 100000 in
set_option maxHeartbeats 4000000 in
theorem Execute_of (hW : WatchOK) (regs : Int) (ls : List (List Cd)) (bl : Option Addr) (cap : Nat) (mem : List Int) (ma : Option Addr) (mcap most : Nat) (w : World) (hin : BlkIn w bl ls) (hv : progErr regs ls = 0) (hm : BIn w ma mem) (hmb : ∀ x ∈ mem, isB x) (hm0 : 0 < mem.length) (hml : mem.length ≤ 32768) (hmo : most ≤ 200000) (him : ∀ k i, k < ls.length → i < (atB ls k).length → (atC (atB ls k) i).im < 4294967296) :
    Calls Try.prog 22 #[.agg #[.int .i64 regs, .slice bl ls.length cap], .slice ma mem.length mcap, .int .i64 most] w (ExecPost (runM ls 0 0 most ⟨List.replicate regs.toNat 0, mem, 0, 0, false⟩ 0) w) := by
  have hal := (Below.refl w.heap.size w).alloc (Nat.le_refl _) (.cells #[.int .i64 regs, .slice bl ls.length cap] 44)
  have HW := Lib.hid (hW regs ls bl cap mem ma mcap most _ (hin.below hal) hv (hm.below hal) hmb hm0 hml hmo him)
  have HB0 := Lib.hid hal
  unfold WatchPost at HW
  unfold ExecPost
  clear hin hv hm hmb hm0 him hW hal
  generalize runM ls 0 0 most ⟨List.replicate regs.toNat 0, mem, 0, 0, false⟩ 0 = r at *
  obtain ⟨m, e, n, t⟩ := r
  simp only at HW
  have HP : Hid (∀ (e' : Ending) (w' : World), (∃ g cap, e' = .returned (.tuple #[.slice (some ⟨g, 0, none⟩) m.length cap, .int .i64 e, .int .i64 n, .int .i64 0]) ∧ w'.ownsRow w.heap.size 5 1 (.slice (some ⟨g, 0, none⟩) m.length cap) m.length (encB m)) ∧ Below w.heap.size w w' → ExecPost (m, e, n, t) w e' w') := Lib.hid (fun e' w' h => h)
  show Calls _ _ _ _ (ExecPost (m, e, n, t) w)
  generalize hEP : ExecPost (m, e, n, t) w = EP at *
  clear hEP
  generalize ls.length = ln at *
  generalize mem.length = mn at *
  go_enter Try.func22, Try.ntmps22
  go_wp2_with fail
  refine HW.out.mono ?_; rintro e' w2 ⟨⟨g, gc, rfl, ho⟩, hb⟩
  have HO := Lib.hid (owns_base ho HB0.out.size)
  have HB := Lib.hid (HB0.out.trans (hb.mono HB0.out.size))
  clear ho hb HW HB0
  go_wp2_with fail
  exact bodyPost_ret (v := .tuple #[.slice (some ⟨g, 0, none⟩) m.length gc, .int .i64 e, .int .i64 n, .int .i64 0]) (by simp [results, Try.results22, go_sem]) rfl (HP.out _ _ ⟨⟨g, gc, rfl, HO.out⟩, HB.out⟩)
end Go.Proofs.Ytccpjfppkahbmaa.PK
