/- The law SeatAllocates. -/
import Derived.Test.YtjfpaelmcepidaaNO
import Derived.Test.YtjfpaelmcepidaaKZ
import Derived.Lib.SmallJoins
import Derived.Test.YtjfpaelmcepidaaB0
import Derived.Test.YtjfpaelmcepidaaA8
import Derived.Test.YtjfpaelmcepidaaMH
import Derived.Deep.QuietTactic
import Derived.BigQuiet
import Derived.Test.YtjfpaelmcepidaaMS
import Derived.Test.YtjfpaelmcepidaaA2
import Derived.Test.YtjfpaelmcepidaaE0
namespace Go.Proofs.Ytjfpaelmcepidaa.PK
open Go.RowKit Go.Joins Go.Deep Go.ChangeShapes Go.WideShapes

set_option maxRecDepth 100000 in
theorem open_job {H : Type} {enc : TypeId × Value → H} {w : World} {r : Reach} {b0 base : Nat} {held : Bool} {v : Value} {d : DataW H} {p : List MemPlace}
    (hv : Value.okWide Try.prog w r b0 27 v) (h : DataW.Trod enc Try.prog w base (fun _ => true) held 27 v d p) :
    ∃ K a cap ws, v = .agg #[.int .i64 K, .slice a ws.length cap] ∧ WsIn w a ws ∧ ws.length ≤ maxLen ∧ ∀ k, k < ws.length → isW (ws.getD k 0) := by
  obtain ⟨v0, v1, y0, y1, n, rfl, rfl, rfl, h0, h1⟩ := open_agg2 Try.underlying27 (by kernel_rfl) (by kernel_rfl) hv h
  obtain ⟨x0, e0, _, _⟩ := DataW.trod_int Try.underlying3 h0
  obtain ⟨a, cap, ws, rfl, h2, _, h3, h4⟩ := open_words h1
  simp only [List.cons.injEq, and_true] at e0
  subst e0
  exact ⟨x0, a, cap, ws, rfl, h2, h3, h4⟩
end Go.Proofs.Ytjfpaelmcepidaa.PK
namespace Go.Proofs.Ytjfpaelmcepidaa.PK
open Go.RowKit

/-- An instruction uses memory before the frame at places that it names. -/
def FM1 (x : Cd) : Prop := fM x.op = true → x.a < 0 ∧ x.im < 1020
def FrC (l : List Cd) (m : Nat) : Prop := ∀ i, i < m → FM1 (atC l i)
def FrK (ls : List (List Cd)) (k : Nat) : Prop := ∀ j, j < k → FrC (atB ls j) (atB ls j).length
theorem FrC.next {l : List Cd} {m : Nat} (h : FrC l m) (h1 : FM1 (atC l m)) : FrC l (m + 1) := fun i hi => by
  by_cases c : i = m
  · rw [c]; exact h1
  · exact h i (by omega)
theorem FrK.next {ls : List (List Cd)} {k : Nat} (h : FrK ls k) (h1 : FrC (atB ls k) (atB ls k).length) : FrK ls (k + 1) := fun i hi => by
  by_cases c : i = k
  · rw [c]; exact h1
  · exact h i (by omega)
/-- What framed answers says. -/
def FdPost (ls : List (List Cd)) (w : World) (e : Ending) (w' : World) : Prop := (∃ b : Bool, e = .returned (.bool b) ∧ (b = false → FrK ls ls.length)) ∧ Below w.heap.size w w'
set_option maxRecDepth 100000 in
set_option maxHeartbeats 4000000 in
theorem framed_any (regs : Int) (ls : List (List Cd)) (bl : Option Addr) (cap : Nat) (w : World) (hin : BlkIn w bl ls) (hl : ls.length ≤ 30) (hlm : ∀ k, k < ls.length → (atB ls k).length ≤ 60) :
    Calls Try.prog 9 #[.agg #[.int .i64 regs, .slice bl ls.length cap]] w (FdPost ls w) := by
  have HLm := Lib.hid hlm
  have h1 : (w.alloc (.cells #[.int .i64 regs, .slice bl ls.length cap] 24)).cell? ⟨w.heap.size, 1, none⟩ = some (.slice bl ls.length cap) := by simp [go_sem]
  have hb0 : Below w.heap.size w (w.alloc (.cells #[.int .i64 regs, .slice bl ls.length cap] 24)) := (Below.refl _ _).alloc (Nat.le_refl _) _
  have HI := Lib.hid (hin.below hb0)
  have HB0 := Lib.hid hb0
  have HNo : Hid (∀ w', FrK ls ls.length → Below w.heap.size w w' → FdPost ls w (.returned (.bool false)) w') := Lib.hid fun w' h1 h2 => ⟨⟨false, rfl, fun _ => h1⟩, h2⟩
  have HYes : Hid (∀ w', Below w.heap.size w w' → FdPost ls w (.returned (.bool true)) w') := Lib.hid fun w' h => ⟨⟨true, rfl, fun h => (by cases h)⟩, h⟩
  clear hin hlm hb0
  generalize FdPost ls w = PP at *
  generalize hn : ls.length = n at *
  have HN := Lib.hid hn; clear hn
  go_enter Try.func9, Try.ntmps9
  go_upto_region 1 with (fail)
  generalize w.alloc (.cells #[.int .i64 regs, .slice bl n cap] 24) = w0 at *
  have H1 := Lib.hid h1
  have HZ := Lib.hid HB0.out.size
  go_wp2_with fail
  clear h1
  go_loopw [3] (fun i wr => ∃ k : Nat, k ≤ n ∧ i = .int .i64 k ∧ Hid (FrK ls k) ∧ Below w0.heap.size w0 wr) (fun i _ => n - (intOf i).toNat)
  case atStart => exact ⟨0, Nat.zero_le _, rfl, Lib.hid fun j hj => absurd hj (Nat.not_lt_zero _), Below.refl _ _⟩
  case round =>
    obtain ⟨k, hk, rfl, HAll, hb⟩ := hrel
    obtain ⟨wo, rfl⟩ : ∃ wo, wo = wr := ⟨_, rfl⟩
    have HB := Lib.hid hb
    have p1 := keep H1.out hb
    have P1 := Lib.hid p1
    by_cases hlt : k < n
    rotate_left
    · obtain rfl : k = n := by omega
      have HF := Lib.hid (HNo.out _ HAll.out (HB0.out.trans (hb.mono HZ.out)))
      clear hb
      go_wp2_with fail
      exact HF.out
    have hki : (k : Int) < (n : Int) := by omega
    obtain ⟨cb, coff, ca, cc, hbe, hcell, hcds⟩ := (HI.out.below hb) k (by rw [HN.out]; exact hlt)
    have hlk := HLm.out k hlt
    subst hbe
    have HCds := Lib.hid hcds; have HCell := Lib.hid hcell
    clear hb hcds
    generalize hm : (atB ls k).length = m at *
    have HM := Lib.hid hm; clear hm
    go_wp2_with fail
    clear p1 hcell
    go_loopw [4] (fun i wr => ∃ j : Nat, j ≤ m ∧ i = .int .i64 j ∧ Hid (FrC (atB ls k) j) ∧ Below wo.heap.size wo wr) (fun i _ => m - (intOf i).toNat)
    case atStart => exact ⟨0, Nat.zero_le _, rfl, Lib.hid fun j hj => absurd hj (Nat.not_lt_zero _), Below.refl _ _⟩
    case round =>
      obtain ⟨j, hj, rfl, HAl, hb⟩ := hrel
      have HBi := Lib.hid hb
      have p1 := keep P1.out hb
      have p2 := keep HCell.out hb
      have HBw : Hid (Below w.heap.size w wr) := Lib.hid (HB0.out.trans ((HB.out.trans (hb.mono HB.out.size)).mono HZ.out))
      have HZr : Hid (w.heap.size ≤ wr.heap.size) := Lib.hid HBw.out.size
      by_cases hjl : j < m
      rotate_left
      · obtain rfl : j = m := by omega
        have HA2 := Lib.hid (HAll.out.next (by rw [HM.out]; exact HAl.out))
        clear hb
        go_wp2_with fail
        go_roundw
        case rel => exact ⟨k + 1, by omega, by go_num, HA2, HB.out.trans (HBi.out.mono HB.out.size)⟩
        case measure => simp [intOf]; omega
      obtain ⟨xb, xoff, hxe, hx⟩ := HCds.out j (by rw [HM.out]; exact hjl)
      have hx' : CdAt wr xb (xoff + j * 6) (atC (atB ls k) j) := hx.keep hb
      have HNx := Lib.hid (fun h => HAl.out.next h)
      have hji : (j : Int) < (m : Int) := by omega
      subst hxe
      clear hx hb
      generalize atC (atB ls k) j = x at *
      obtain ⟨x0, x1, x2, x3, x4, x5⟩ := hx'
      have hbx : Below wr.heap.size wr (wr.alloc (.cells #[.int .i64 x.op, .int .i64 x.d, .int .i64 x.a, .int .i64 x.b, .int .u32 x.im, .int .i64 x.to] 68)) := (Below.refl _ _).alloc (Nat.le_refl _) _
      have HXx := Lib.hid (cdAt_new wr x 68)
      have HBx := Lib.hid (HBi.out.trans (hbx.mono HBi.out.size))
      have HBwx := Lib.hid (HBw.out.trans (hbx.mono HZr.out))
      clear hbx
      go_upto_region 8 with (fail)
      clear x0 x1 x2 x3 x4 x5 p1 p2
      obtain ⟨x0, x1, x2, x3, x4, x5⟩ := HXx.out
      simp only [Nat.zero_add] at x1 x2 x3 x4 x5
      generalize wr.alloc (.cells #[.int .i64 x.op, .int .i64 x.d, .int .i64 x.a, .int .i64 x.b, .int .u32 x.im, .int .i64 x.to] 68) = wx at *
      generalize wr.heap.size = qx at *
      by_cases hf : fM x.op = true
      rotate_left
      · have hok : Hid (FM1 x) := Lib.hid (fun h => absurd h hf)
        have hcs : x.op < 18 ∨ (18 ≤ x.op ∧ 23 < x.op) := by unfold fM at hf; simp at hf; omega
        clear hf
        rcases hcs with h18 | ⟨h18, h23⟩
        · have hd : ¬ 18 ≤ x.op := by omega
          go_wp2_with fail
          go_roundw
          case rel => exact ⟨j + 1, by omega, by go_num, Lib.hid (HNx.out hok.out), HBx.out⟩
          case measure => simp [intOf]; omega
        · have hd : 18 ≤ x.op := by omega
          have hd2 : ¬ x.op ≤ 23 := by omega
          go_wp2_with fail
          go_roundw
          case rel => exact ⟨j + 1, by omega, by go_num, Lib.hid (HNx.out hok.out), HBx.out⟩
          case measure => simp [intOf]; omega
      have hd : 18 ≤ x.op := by unfold fM at hf; simp at hf; omega
      have hd2 : x.op ≤ 23 := by unfold fM at hf; simp at hf; omega
      clear hf
      by_cases ha : 0 ≤ x.a
      · have hd3 : 0 ≤ x.a := ha
        have HF := Lib.hid (HYes.out _ HBwx.out)
        clear ha
        go_wp2_with fail
        exact HF.out
      have hd3 : ¬ 0 ≤ x.a := ha
      by_cases hi : 1020 ≤ x.im
      · have hd4 : (1020 : Int) ≤ (x.im : Int) := by omega
        have HF := Lib.hid (HYes.out _ HBwx.out)
        clear ha hi
        go_wp2_with fail
        exact HF.out
      · have hd4 : ¬ (1020 : Int) ≤ (x.im : Int) := by omega
        have hok : Hid (FM1 x) := Lib.hid (fun _ => ⟨by omega, by omega⟩)
        clear ha hi
        go_wp2_with fail
        go_roundw
        case rel => exact ⟨j + 1, by omega, by go_num, Lib.hid (HNx.out hok.out), HBx.out⟩
        case measure => simp [intOf]; omega
set_option maxRecDepth 100000 in
set_option maxHeartbeats 4000000 in
theorem Apart_near (m m' : List Int) (places : Nat) (a a' : Option Addr) (cap cap' : Nat) (w : World) (hq : MemEq places m m') (hp : places ≤ 200) (hin : BIn w a m) (hin' : BIn w a' m') (hl : m.length ≤ 1000000) :
    Calls Try.prog 12 #[.slice a m.length cap, .slice a' m'.length cap', .int .i64 (places : Nat)] w fun e w' => e = .returned (.bool true) ∧ Below w.heap.size w w' := by
  have HI := Lib.hid hin; have HI' := Lib.hid hin'
  have HQ := Lib.hid hq.2
  have hlq := hq.1
  rw [hlq]
  have HLq := Lib.hid hlq
  clear hin hin' hq hlq
  have hn : ((m.length : Int) != (m.length : Int)) = false := by simp
  generalize hml : m.length = ml at *
  have HMl := Lib.hid hml; clear hml
  go_enter Try.func12, Try.ntmps12
  go_wp2_with fail
  go_loopw [7] (fun i wr => ∃ k : Nat, k ≤ ml ∧ i = .int .i64 k ∧ Below w.heap.size w wr) (fun i _ => ml - (intOf i).toNat)
  case atStart => exact ⟨0, Nat.zero_le _, rfl, Below.refl _ _⟩
  case round =>
    obtain ⟨k, hk, rfl, hb⟩ := hrel
    have HB := Lib.hid hb
    by_cases hlt : k < ml
    · have hki : (k : Int) < (ml : Int) := by omega
      have hk0 : (0 : Int) ≤ (k : Int) := by omega
      obtain ⟨b1, o1, rfl, c1⟩ := HI.out.below hb k (by rw [HMl.out]; exact hlt)
      obtain ⟨b2, o2, rfl, c2⟩ := HI'.out.below hb k (by rw [HLq.out]; exact hlt)
      have hqk := HQ.out k
      clear hb
      generalize m.getD k 0 = x at *
      generalize m'.getD k 0 = y at *
      by_cases hxy : x = y
      · have hx : (x != y) = false := by simp [hxy]
        clear hxy hqk
        go_wp2_with fail
        go_quiet (fail)
        go_wp2_with fail
        go_roundw
        case rel => exact ⟨k + 1, by omega, by go_num, HB.out.trans (below_drewN (Below.refl _ _) _)⟩
        case measure => simp [intOf]; omega
      · have hx : (x != y) = true := bne_iff_ne.2 hxy
        have h1 : ¬ k < 1024 ∧ k < 1024 + 4 * places := by
          refine ⟨fun h => hxy (hqk (.inl h)).symm, ?_⟩
          by_cases c : k < 1024 + 4 * places
          · exact c
          · exact absurd (hqk (.inr (by omega))).symm hxy
        have hd1 : decide ((k : Int) < 1024) = false := by simp; omega
        have hd2 : decide ((1024 : Int) + 4 * (places : Int) ≤ (k : Int)) = false := by simp; omega
        clear hxy hqk h1
        go_wp2_with fail
        go_quiet (fail)
        go_wp2_with fail
        go_roundw
        case rel => exact ⟨k + 1, by omega, by go_num, HB.out.trans (below_drewN (Below.refl _ _) _)⟩
        case measure => simp [intOf]; omega
    · have hki : ¬ (k : Int) < (ml : Int) := by omega
      clear hb
      go_wp2_with fail
      go_ret
      exact ⟨rfl, HB.out⟩
end Go.Proofs.Ytjfpaelmcepidaa.PK
namespace Go.Proofs.Ytjfpaelmcepidaa.PK
open Go.RowKit

theorem stepM_on {s s' : Mach} {x : Cd} {fr tw : Int} {n : Nat} (h : stepM s x fr tw n = .on s') : s'.mem.length = s.mem.length := by
  unfold stepM at h
  repeat' split at h
  all_goals first | (injection h with h; subst h; simp [putR, wrF_len]) | cases h
theorem stepM_out {s : Mach} {x : Cd} {fr tw : Int} {n : Nat} {m : List Int} {e : Int} {k : Nat} {t : Bool} (h : stepM s x fr tw n = .out m e k t) : m.length = s.mem.length ∧ k ≤ n + 1 := by
  unfold stepM at h
  repeat' split at h
  all_goals first | (injection h with h1 h2 h3 h4; subst h1 h3; exact ⟨rfl, by omega⟩) | cases h
/-- A run keeps the memory's length, and does not run more than it may. -/
theorem runM_keeps (P : List (List Cd)) (fr tw : Int) : ∀ (f : Nat) (s : Mach) (n : Nat), (runM P fr tw f s n).1.length = s.mem.length ∧ (runM P fr tw f s n).2.2.1 ≤ f + n
  | 0, s, n => ⟨rfl, by show n ≤ 0 + n; omega⟩
  | f + 1, s, n => by
    cases h : stepM s (atC (atB P s.blk) s.pc) fr tw n with
    | on s' =>
      rw [runM_on h]
      have h1 := runM_keeps P fr tw f s' (n + 1)
      exact ⟨h1.1.trans (stepM_on h), by omega⟩
    | out m e k t =>
      rw [runM_out h]
      have h1 := stepM_out h
      exact ⟨h1.1, by show k ≤ _; omega⟩
theorem im_at {ls : List (List Cd)} (h : ∀ l ∈ ls, ∀ x ∈ l, x.im < 4294967296) (k i : Nat) : (atC (atB ls k) i).im < 4294967296 := by
  unfold atC
  rw [List.getD_eq_getElem?_getD]
  by_cases hi : i < (atB ls k).length
  · rw [List.getElem?_eq_getElem hi]
    have hk : k < ls.length := by
      by_cases c : k < ls.length
      · exact c
      · exfalso
        unfold atB at hi
        rw [List.getD_eq_getElem?_getD, List.getElem?_eq_none (by omega)] at hi
        exact absurd hi (Nat.not_lt_zero _)
    refine h _ ?_ _ (List.getElem_mem hi)
    rw [atB_get hk]
    exact List.getElem_mem hk
  · rw [List.getElem?_eq_none (by omega)]
    decide
theorem im_of {ls : List (List Cd)} (h : ∀ k i, (atC (atB ls k) i).im < 4294967296) : ∀ l ∈ ls, ∀ x ∈ l, x.im < 4294967296 := fun l hl x hx => by
  obtain ⟨k, hk, rfl⟩ := List.getElem_of_mem hl
  obtain ⟨i, hi, rfl⟩ := List.getElem_of_mem hx
  have := h k i
  rw [atB_get hk, atC_get hi] at this
  exact this
/-- The words of the program with few registers are words. -/
theorem outS_im {s : Seats} {ls : List (List Cd)} {inn : Int → Int → Bool} {places : Nat} (H : SeatOk s ls inn places) (him : ∀ k i, (atC (atB ls k) i).im < 4294967296) (l0 : List Int) : ∀ k i, (atC (atB (outS s ls l0) k) i).im < 4294967296 := by
  have hf : ∀ r p, s.frm r = some p → 1024 + 4 * p.toNat < 4294967296 := fun r p h => by
    have := H.frmR r p h
    have := H.big
    omega
  have hrd : ∀ r spare, ∀ x ∈ (readS s r spare).2, x.im < 4294967296 := fun r spare x hx => by
    unfold readS at hx
    split at hx
    · cases hx
    · split at hx
      · rename_i n hn
        rw [List.mem_singleton] at hx
        subst hx
        exact H.numU r n hn
      · rw [List.mem_singleton] at hx
        subst hx
        show 1024 + 4 * _ < _
        cases hp : s.frm r with
        | none => decide
        | some p => exact hf r p hp
  have hwr : ∀ r, ∀ x ∈ (writeS s r).2, x.im < 4294967296 := fun r x hx => by
    unfold writeS at hx
    split at hx
    · cases hx
    · split at hx
      · rename_i p hp
        rw [List.mem_singleton] at hx
        subst hx
        exact hf r p hp
      · cases hx
  have hcd : ∀ y : Cd, y.im < 4294967296 → ∀ x ∈ codeS s y, x.im < 4294967296 := fun y hy x hx => by
    unfold codeS at hx
    split at hx
    · cases hx
    · simp only [List.mem_append, List.mem_cons] at hx
      rcases hx with hx | hx | rfl | hx
      · unfold opndA at hx
        split at hx
        · exact hrd _ _ x hx
        · cases hx
      · unfold opndB at hx
        split at hx
        · exact hrd _ _ x hx
        · cases hx
      · exact hy
      · unfold opndD at hx
        split at hx
        · exact hwr _ x hx
        · cases hx
  refine im_at fun l hl x hx => ?_
  unfold outS at hl
  rcases List.mem_append.1 hl with hl | hl
  · split at hl
    · cases hl
    · rw [List.mem_singleton] at hl
      subst hl
      rcases List.mem_append.1 hx with hx | hx
      · unfold begS at hx
        obtain ⟨r, _, hr⟩ := List.mem_filterMap.1 hx
        cases hp : s.frm r with
        | none => rw [hp] at hr; cases hr
        | some p =>
          rw [hp] at hr
          simp only [Option.map_some, Option.some.injEq] at hr
          subst hr
          exact hf r p hp
      · rw [List.mem_singleton] at hx
        subst hx
        decide
  · obtain ⟨y, hy, rfl⟩ := List.mem_map.1 hl
    unfold blockS at hx
    obtain ⟨z, hz, hx⟩ := List.mem_flatMap.1 hx
    refine hcd _ ?_ x hx
    have := im_of him y hy z hz
    unfold shX
    split
    · exact this
    · exact this
theorem picks_mem {f : Nat → Bool} {n : Nat} {r : Int} : r ∈ picks f n ↔ 0 ≤ r ∧ r < n ∧ f r.toNat = true := by
  unfold picks
  rw [List.mem_map]
  constructor
  · rintro ⟨k, hk, rfl⟩
    have h := List.mem_filter.1 hk
    have := List.mem_range.1 h.1
    exact ⟨by omega, by omega, by simpa using h.2⟩
  · rintro ⟨h0, h1, h2⟩
    exact ⟨r.toNat, List.mem_filter.2 ⟨List.mem_range.2 (by omega), h2⟩, by omega⟩
/-- What is live in front of a block closes under the block. -/
theorem LiveOf.fix {ls : List (List Cd)} {regs : Nat} {L : List (List Int)} (h : LiveOf ls regs L) (hc : ∀ k i, k < ls.length → i < (atB ls k).length → isCodeB (atC (atB ls k) i) regs ls.length = true) (b : Nat) (r : Int) (hb : b < ls.length) (hl : liveL (atB ls b) (tabI L) r = true) : tabI L b r = true := by
  have hcx : ∀ x ∈ atB ls b, isCodeB x regs ls.length = true := fun x hx => by
    obtain ⟨j, hj, rfl⟩ := List.getElem_of_mem hx
    have := hc b j hb hj
    rwa [atC_get hj] at this
  have hin := liveL_in (regs := (regs : Int)) (fun b r h1 => by have := tabI_in (regs := (regs : Int)) (by rwa [Int.toNat_natCast]) (by omega) b r h1; exact this) (atB ls b) r (fun x hx => usesL_in (hcx x hx)) hl
  obtain ⟨f, h1, rfl⟩ := h
  have hlr : LiveR ls r b := liveL_live (goL_to fun x hx ht => (code_parts (hcx x hx)).2.2.2.2.2.2.2.1 ht |>.1) (fun c hcr => by
    unfold tabI at hcr
    have hm := of_decide_eq_true hcr
    rw [Int.toNat_natCast] at hm
    by_cases hk : c < ls.length
    · rw [rowsFn_get _ hk, picks_mem] at hm
      have := (h1 c hk r.toNat (by omega)).1 hm.2.2
      rwa [Int.toNat_of_nonneg hm.1] at this
    · rw [List.getD_eq_getElem?_getD, List.getElem?_eq_none (by rw [rowsFn_len]; omega)] at hm
      cases hm) hl
  unfold tabI
  refine decide_eq_true ?_
  rw [Int.toNat_natCast, rowsFn_get _ hb, picks_mem]
  exact ⟨hin.1, hin.2, (h1 b hb r.toNat (by omega)).2 (by rwa [Int.toNat_of_nonneg hin.1])⟩
/-- What Execute answers where the program is right. -/
def ExecP (r : List Int × Int × Nat × Bool) (w : World) (e : Ending) (w' : World) : Prop :=
  (∃ g cap, e = .returned (.tuple #[.slice (some ⟨g, 0, none⟩) r.1.length cap, .int .i64 r.2.1, .int .i64 r.2.2.1, .int .i64 0]) ∧ w'.ownsRow w.heap.size 5 1 (.slice (some ⟨g, 0, none⟩) r.1.length cap) r.1.length (encB r.1)) ∧ Below w.heap.size w w'
set_option maxRecDepth 100000 in
set_option maxHeartbeats 4000000 in
theorem Execute_S (regs : Int) (ls : List (List Cd)) (bl : Option Addr) (cap : Nat) (mem : List Int) (ad : Addr) (mcap most : Nat) (w : World) (hin : BlkIn w bl ls) (hv : progErrW regs ls = 0) (hlm : ∀ k, k < ls.length → (atB ls k).length ≤ 9223372036854775807) (hm : BIn w (some ad) mem) (hmb : ∀ x ∈ mem, isB x) (hml : mem.length ≤ 32768) (hmo : most ≤ 200000) (him : ∀ k i, k < ls.length → i < (atB ls k).length → (atC (atB ls k) i).im < 4294967296) :
    Calls Try.prog 11 #[.agg #[.int .i64 regs, .slice bl ls.length cap], .slice (some ad) mem.length mcap, .int .i64 most] w (ExecP (runM ls 0 0 most ⟨List.replicate regs.toNat 0, mem, 0, 0, false⟩ 0) w) := by
  have hal := (Below.refl w.heap.size w).alloc (Nat.le_refl _) (.cells #[.int .i64 regs, .slice bl ls.length cap] 24)
  have HW := Lib.hid (WatchS regs ls bl cap mem ad mcap most _ (hin.below hal) hv hlm (hm.below hal) hmb hml hmo him)
  have HB0 := Lib.hid hal
  unfold WatchPost at HW
  unfold ExecP
  clear hin hv hlm hm hmb him hal
  generalize runM ls 0 0 most ⟨List.replicate regs.toNat 0, mem, 0, 0, false⟩ 0 = r at *
  obtain ⟨m, e, n, t⟩ := r
  simp only at HW
  have HP : Hid (∀ (e' : Ending) (w' : World), (∃ g cap, e' = .returned (.tuple #[.slice (some ⟨g, 0, none⟩) m.length cap, .int .i64 e, .int .i64 n, .int .i64 0]) ∧ w'.ownsRow w.heap.size 5 1 (.slice (some ⟨g, 0, none⟩) m.length cap) m.length (encB m)) ∧ Below w.heap.size w w' → ExecP (m, e, n, t) w e' w') := Lib.hid (fun e' w' h => h)
  show Calls _ _ _ _ (ExecP (m, e, n, t) w)
  generalize hEP : ExecP (m, e, n, t) w = EP at *
  clear hEP
  generalize ls.length = ln at *
  generalize mem.length = mn at *
  go_enter Try.func11, Try.ntmps11
  go_wp2_with fail
  refine HW.out.mono ?_; rintro e' w2 ⟨⟨g, gc, rfl, ho⟩, hb⟩
  have HO := Lib.hid (owns_base ho HB0.out.size)
  have HB := Lib.hid (HB0.out.trans (hb.mono HB0.out.size))
  clear ho hb HW HB0
  go_wp2_with fail
  exact bodyPost_ret (v := .tuple #[.slice (some ⟨g, 0, none⟩) m.length gc, .int .i64 e, .int .i64 n, .int .i64 0]) (by simp [results, Try.results11, go_sem]) rfl (HP.out _ _ ⟨⟨g, gc, rfl, HO.out⟩, HB.out⟩)
end Go.Proofs.Ytjfpaelmcepidaa.PK
namespace Go.Proofs.Ytjfpaelmcepidaa.PK
open Go.RowKit

/-- What the law needs of both runs. -/
theorem runs_ok {s : Seats} {ls : List (List Cd)} {L : List (List Int)} {places : Nat} {regs : Int} {mem : List Int} (hv : progErrW regs ls = 0) (hL : LiveOf ls regs.toNat L) (him : ∀ b i, (atC (atB ls b) i).im < 4294967296) (hF : FrK ls ls.length) (H : SeatOk s ls (tabI L) places) (hm : mem.length = 32768)
    (he : (runM ls 0 0 2000 ⟨List.replicate regs.toNat 0, mem, 0, 0, false⟩ 0).2.1 = 1 ∨ (runM ls 0 0 2000 ⟨List.replicate regs.toNat 0, mem, 0, 0, false⟩ 0).2.1 = 2) :
    MemEq places (runM ls 0 0 2000 ⟨List.replicate regs.toNat 0, mem, 0, 0, false⟩ 0).1 (runM (outS s ls (L.getD 0 [])) 0 0 200000 ⟨List.replicate ((s.k : Int) + 2).toNat 0, mem, 0, 0, false⟩ 0).1 ∧
      (runM (outS s ls (L.getD 0 [])) 0 0 200000 ⟨List.replicate ((s.k : Int) + 2).toNat 0, mem, 0, 0, false⟩ 0).2.1 = (runM ls 0 0 2000 ⟨List.replicate regs.toNat 0, mem, 0, 0, false⟩ 0).2.1 := by
  obtain ⟨hbig, hcode, hlast⟩ := prog_partsW hv
  have hb2 : 0 ≤ regs ∧ regs ≤ 200 ∧ 1 ≤ ls.length ∧ ls.length ≤ 400 := by unfold tooBigW at hbig; omega
  have hro : ∀ r, r ∈ L.getD 0 [] → tabI L 0 r = true := fun r h => decide_eq_true h
  have P : ProgOk ls (tabI L) regs := ⟨hcode, fun k hk => (hlast k hk).1, fun k i hk hi => (hlast k hk).2 i hi, fun k i hk hi hf => hF k hk i hi hf, him, tabI_in hL hb2.1, fun b r hb h => hL.fix (fun k i hk hi => by rw [Int.toNat_of_nonneg hb2.1]; exact hcode k i hk hi) b r hb h⟩
  obtain ⟨b, hq, c', t', hr⟩ := alloc_run H P hb2.1 (by omega) (l0 := L.getD 0 []) (fun r h => of_decide_eq_true h) (by have := hL.row 0; omega) hm (rfl : _ = (_, _, _, _)) he
  rw [show ((s.k : Int) + 2).toNat = s.k + 2 from by omega, hr]
  exact ⟨hq, rfl⟩
set_option maxRecDepth 100000 in
set_option maxHeartbeats 8000000 in
theorem seatAllocates_any (regs : Int) (ls : List (List Cd)) (bl : Option Addr) (cap : Nat) (K : Int) (ws : List Int) (wa : Option Addr) (wc : Nat) (w : World) (hin : BlkIn w bl ls) (hl : ls.length ≤ 9223372036854775807) (hm : ∀ k, k < ls.length → (atB ls k).length ≤ 9223372036854775807) (him : ∀ k i, (atC (atB ls k) i).im < 4294967296)
    (hws : WsIn w wa ws) (hww : ∀ k, k < ws.length → isW (ws.getD k 0)) (hwl : ws.length ≤ maxLen) :
    Calls Try.prog 3 #[.agg #[.int .i64 regs, .slice bl ls.length cap], .agg #[.int .i64 K, .slice wa ws.length wc]] w fun e w' => e = .returned (.bool true) ∧ Below w.heap.size w w' := by
  obtain ⟨L, hL⟩ := LiveOf.there ls regs.toNat
  have HS := Lib.hid (fun u (h : BlkIn u bl ls) => small_any regs ls bl cap u h hl hm)
  have HK := Lib.hid Go.Proofs.Ytjfpaelmcepidaa.known_any
  have HA := Lib.hid (fun (h1 : ls.length ≤ 30) (h2 : ∀ k, k < ls.length → (atB ls k).length ≤ 60) u (h : BlkIn u bl ls) => Allocate_any regs K ls L bl cap u (fun k hk => Nat.le_trans (h2 k hk) (by omega)) (by omega) him hL h)
  have HV := Lib.hid (fun u (h : BlkIn u bl ls) => rValidateW_any regs ls bl cap u h hl hm)
  have HF := Lib.hid (fun (h1 : ls.length ≤ 30) (h2 : ∀ k, k < ls.length → (atB ls k).length ≤ 60) u (h : BlkIn u bl ls) => framed_any regs ls bl cap u h h1 h2)
  have HM := Lib.hid (fun u (h : WsIn u wa ws) => Memory_any ws wa wc u h hww hwl)
  have HI2 : Hid (∀ W, Below w.heap.size w W → BlkIn W bl ls) := Lib.hid fun W h => hin.below h
  have HW2 : Hid (∀ W, Below w.heap.size w W → WsIn W wa ws) := Lib.hid fun W h => hws.below h
  have HRun := Lib.hid (fun (s : Seats) (places : Nat) (hv : progErrW regs ls = 0) (hF : FrK ls ls.length) (H : SeatOk s ls (tabI L) places) => runs_ok hv hL him hF H (memW_len ws))
  have HEx := Lib.hid (fun (hv : progErrW regs ls = 0) g c u (h : BlkIn u bl ls) (hb : BIn u (some ⟨g, 0, none⟩) (memW ws)) => (by
    have := Execute_S regs ls bl cap (memW ws) ⟨g, 0, none⟩ c 2000 u h hv hm hb (memW_b ws) (by rw [memW_len]; omega) (by omega) (fun k i _ _ => him k i)
    rwa [memW_len] at this : Calls Try.prog 11 #[.agg #[.int .i64 regs, .slice bl ls.length cap], .slice (some ⟨g, 0, none⟩) 32768 c, .int .i64 2000] u (ExecP (runM ls 0 0 2000 ⟨List.replicate regs.toNat 0, memW ws, 0, 0, false⟩ 0) u)))
  have HOut : Hid (progErrW regs ls = 0 → ls.length ≤ 30 → (∀ k, k < ls.length → (atB ls k).length ≤ 60) → ∀ s places, SeatOk s ls (tabI L) places → (outS s ls (L.getD 0 [])).length ≤ 100 ∧ (∀ k, (atB (outS s ls (L.getD 0 [])) k).length ≤ 1000) ∧ ∀ k i, (atC (atB (outS s ls (L.getD 0 [])) k) i).im < 4294967296) := Lib.hid fun hv h1 h2 s places H => by
    obtain ⟨hbig, _, _⟩ := prog_partsW hv
    have hr : regs ≤ 200 := by unfold tooBigW at hbig; omega
    have := hL.row 0
    refine ⟨?_, fun k => ?_, outS_im H him _⟩
    · have := outS_len s ls (L.getD 0 []); omega
    · have := outS_row s (l0 := L.getD 0 []) h2 k; omega
  have HEy := Lib.hid (fun (q0 : Int) (outs : List (List Cd)) qa qc (hv : progErrW q0 outs = 0) (hl : ∀ k, (atB outs k).length ≤ 1000) (hi : ∀ k i, (atC (atB outs k) i).im < 4294967296) g c u (h : BlkIn u qa outs) (hb : BIn u (some ⟨g, 0, none⟩) (memW ws)) => (by
    have := Execute_S q0 outs qa qc (memW ws) ⟨g, 0, none⟩ c 200000 u h hv (fun k _ => Nat.le_trans (hl k) (by omega)) hb (memW_b ws) (by rw [memW_len]; omega) (by omega) (fun k i _ _ => hi k i)
    rwa [memW_len] at this : Calls Try.prog 11 #[.agg #[.int .i64 q0, .slice qa outs.length qc], .slice (some ⟨g, 0, none⟩) 32768 c, .int .i64 200000] u (ExecP (runM outs 0 0 200000 ⟨List.replicate q0.toNat 0, memW ws, 0, 0, false⟩ 0) u)))
  have HMl : Hid ((runM ls 0 0 2000 ⟨List.replicate regs.toNat 0, memW ws, 0, 0, false⟩ 0).1.length = 32768 ∧ (runM ls 0 0 2000 ⟨List.replicate regs.toNat 0, memW ws, 0, 0, false⟩ 0).2.2.1 ≤ 2000) := Lib.hid (by
    have := runM_keeps ls 0 0 2000 ⟨List.replicate regs.toNat 0, memW ws, 0, 0, false⟩ 0
    exact ⟨this.1.trans (memW_len ws), by omega⟩)
  clear hin hl hm him hws hww hwl hL
  unfold SmPost at HS
  unfold AlShape at HA
  unfold FdPost at HF
  unfold ExecP at HEx HEy
  generalize runM ls 0 0 2000 ⟨List.replicate regs.toNat 0, memW ws, 0, 0, false⟩ 0 = r1 at *
  obtain ⟨a1, e1, n1, t1⟩ := r1
  generalize progErrW regs ls = pe at *
  simp only at HRun HEx HMl
  go_enter Try.func3, Try.ntmps3
  go_upto_region 1 with (fail)
  generalize hw0 : (w.alloc _).alloc _ = w0
  generalize hq : w.heap.size = q at *
  have hb0 : Below q w w0 := by rw [← hw0, ← hq]; exact ((Below.refl _ _).alloc (Nat.le_refl _) _).alloc (by simp) _
  have h0 : w0.cell? ⟨q, 0, none⟩ = some (.int .i64 regs) := by subst hw0 hq; simp [go_sem]
  have h1 : w0.cell? ⟨q, 1, none⟩ = some (.slice bl ls.length cap) := by subst hw0 hq; simp [go_sem]
  have h2 : w0.cell? ⟨q + 1, 0, none⟩ = some (.int .i64 K) := by subst hw0 hq; simp [go_sem]
  have h3 : w0.cell? ⟨q + 1, 1, none⟩ = some (.slice wa ws.length wc) := by subst hw0 hq; simp [go_sem]
  have HB0 := Lib.hid hb0; have HQ := Lib.hid hq
  have HZ : Hid (q ≤ w0.heap.size) := Lib.hid (by rw [← hq]; exact hb0.size)
  clear hw0 hq hb0
  generalize ls.length = ln at *
  generalize ws.length = wn at *
  go_wp2_with fail
  refine (HS.out _ (HI2.out _ HB0.out)).mono ?_; rintro e w1 ⟨⟨lo, rfl, hsm⟩, hb1⟩
  have HB1 := Lib.hid (HB0.out.trans (hb1.mono HZ.out)); have HZ1 : Hid (q ≤ w1.heap.size) := Lib.hid (Nat.le_trans HZ.out hb1.size)
  have k0 := keep h0 hb1; have k1 := keep h1 hb1; have k2 := keep h2 hb1; have k3 := keep h3 hb1
  have HSm := Lib.hid hsm
  clear h0 h1 h2 h3 hb1 hsm
  cases lo
  · go_wp2_with fail
    refine (HK.out _).mono ?_; rintro e w2 ⟨rfl, hb2⟩
    go_wp2_with fail
    go_ret
    exact ⟨rfl, by rw [HQ.out]; exact HB1.out.trans (hb2.mono HZ1.out)⟩
  obtain ⟨s1, s2⟩ := HSm.out rfl
  have HA' := Lib.hid (HA.out s1 s2); have HF' := Lib.hid (HF.out s1 s2); have HOut' := Lib.hid (fun h => HOut.out h s1 s2)
  clear s2 HA HF HOut HSm HS
  go_wp2_with fail
  refine (HA'.out _ (HI2.out _ HB1.out)).mono ?_; rintro e w2 ⟨⟨q0, qa, qc, outs, pl, er, rfl, hbk, hcase⟩, hb2⟩
  have HB2 := Lib.hid (HB1.out.trans (hb2.mono HZ1.out)); have HZ2 : Hid (q ≤ w2.heap.size) := Lib.hid (Nat.le_trans HZ1.out hb2.size)
  have m0 := keep k0 hb2; have m1 := keep k1 hb2; have m2 := keep k2 hb2; have m3 := keep k3 hb2
  have HBk := Lib.hid hbk; have HCase := Lib.hid hcase
  clear k0 k1 k2 k3 hb2 hbk hcase
  generalize hon : outs.length = on at *
  have HOn := Lib.hid hon; clear hon
  go_upto_region 4 with (fail)
  generalize hw3 : w2.alloc _ = w3
  generalize hob : w2.heap.size = ob at *
  have hb3 : Below w2.heap.size w2 w3 := by rw [← hw3]; exact (Below.refl _ _).alloc (Nat.le_refl _) _
  have o0 : w3.cell? ⟨ob, 0, none⟩ = some (.int .i64 q0) := by subst hw3 hob; simp [go_sem]
  have o1 : w3.cell? ⟨ob, 1, none⟩ = some (.slice qa on qc) := by subst hw3 hob; simp [go_sem]
  have n0 := keep m0 hb3; have n1' := keep m1 hb3; have n2 := keep m2 hb3; have n3 := keep m3 hb3
  have HBk3 := Lib.hid (HBk.out.below hb3)
  have hz3 := hb3.size
  rw [hob] at hb3 hz3
  have HB3 := Lib.hid (HB2.out.trans (hb3.mono HZ2.out)); have HZ3 : Hid (q ≤ w3.heap.size) := Lib.hid (Nat.le_trans HZ2.out hz3)
  clear m0 m1 m2 m3 hb3 hw3 hob HBk
  go_wp2_with fail
  refine (HV.out _ (HI2.out _ HB3.out)).mono ?_; rintro e w4 ⟨rfl, hb4⟩
  have HB4 := Lib.hid (HB3.out.trans (hb4.mono HZ3.out)); have HZ4 : Hid (q ≤ w4.heap.size) := Lib.hid (Nat.le_trans HZ3.out hb4.size)
  have k0 := keep n0 hb4; have k1 := keep n1' hb4; have k2 := keep n2 hb4; have k3 := keep n3 hb4; have y0 := keep o0 hb4; have y1 := keep o1 hb4
  have HBk4 := Lib.hid (HBk3.out.below hb4)
  clear n0 n1' n2 n3 o0 o1 hb4 HBk3
  rcases HCase.out with ⟨hne, rfl, rfl⟩ | ⟨rfl, hK, rfl, rfl⟩ | ⟨rfl, hK1, hK8, rfl, rfl⟩ | ⟨rfl, hK1, hK8, rfl, rfl, s, places, hsk, hso, rfl, hout, hpo⟩
  · have hb1 : (er == 0) = false := by simpa using hne
    have hb2 : (er != 0) = true := bne_iff_ne.2 hne
    have hb3 : (er == er) = true := by simp
    obtain rfl : on = 0 := HOn.out.symm
    clear hne
    go_wp2_with fail
    refine (HK.out _).mono ?_; rintro e w5 ⟨rfl, hb5⟩
    go_wp2_with fail
    go_ret
    exact ⟨rfl, by rw [HQ.out]; exact HB4.out.trans (hb5.mono HZ4.out)⟩
  · obtain rfl : on = 0 := HOn.out.symm
    have hK2 : K < 1 ∨ ¬ K < 1 ∧ 8 < K := by omega
    clear hK
    rcases hK2 with hk1 | ⟨hk1, hk8⟩
    all_goals
      go_wp2_with fail
      refine (HK.out _).mono ?_; rintro e w5 ⟨rfl, hb5⟩
      go_wp2_with fail
      go_ret
      exact ⟨rfl, by rw [HQ.out]; exact HB4.out.trans (hb5.mono HZ4.out)⟩
  · obtain rfl : on = 0 := HOn.out.symm
    have hk1 : ¬ K < 1 := by omega
    have hk8 : ¬ 8 < K := by omega
    go_wp2_with fail
    refine (HK.out _).mono ?_; rintro e w5 ⟨rfl, hb5⟩
    go_wp2_with fail
    go_ret
    exact ⟨rfl, by rw [HQ.out]; exact HB4.out.trans (hb5.mono HZ4.out)⟩
  have hk1 : ¬ K < 1 := by omega
  have hk8 : ¬ 8 < K := by omega
  have hp2 := hso.big
  have hp0 : ¬ (places : Int) < 0 := by omega
  have hp3 : ¬ (200 : Int) < (places : Int) := by omega
  obtain ⟨hl1, hl2, hl3⟩ := HOut'.out rfl s places hso
  have HRs := Lib.hid (fun hF => HRun.out s places rfl hF hso)
  subst hsk
  rw [← hout] at hl1 hl2 hl3 HRs
  have HVq := Lib.hid (fun u (h : BlkIn u qa outs) => rValidateW_any ((s.k : Int) + 2) outs qa qc u h (by omega) (fun k _ => Nat.le_trans (hl2 k) (by omega)))
  rw [hpo, HOn.out] at HVq
  have HEz := Lib.hid (HEy.out ((s.k : Int) + 2) outs qa qc hpo hl2 hl3)
  rw [HOn.out] at HEz
  have HMl2 : Hid ((runM outs 0 0 200000 ⟨List.replicate ((s.k : Int) + 2).toNat 0, memW ws, 0, 0, false⟩ 0).1.length = 32768) := Lib.hid ((runM_keeps outs 0 0 200000 ⟨List.replicate ((s.k : Int) + 2).toNat 0, memW ws, 0, 0, false⟩ 0).1.trans (memW_len ws))
  generalize runM outs 0 0 200000 ⟨List.replicate ((s.k : Int) + 2).toNat 0, memW ws, 0, 0, false⟩ 0 = r2 at *
  obtain ⟨a2, e2, nn2, t2⟩ := r2
  simp only at HRs HEz HMl2
  clear hl1 hl2 hl3 hout hpo HEy HRun HOut' HCase hso
  go_wp2_with fail
  refine (HVq.out _ HBk4.out).mono ?_; rintro e w5 ⟨rfl, hb5⟩
  have HB5 := Lib.hid (HB4.out.trans (hb5.mono HZ4.out)); have HZ5 : Hid (q ≤ w5.heap.size) := Lib.hid (Nat.le_trans HZ4.out hb5.size)
  have m0 := keep k0 hb5; have m1 := keep k1 hb5; have m2 := keep k2 hb5; have m3 := keep k3 hb5; have x0 := keep y0 hb5; have x1 := keep y1 hb5
  have HBk5 := Lib.hid (HBk4.out.below hb5)
  clear k0 k1 k2 k3 y0 y1 hb5 HBk4
  have hkk : (((s.k : Int) + 2) != ((s.k : Int) + 2)) = false := by simp
  go_wp2_with fail
  refine (HF'.out _ (HI2.out _ HB5.out)).mono ?_; rintro e w6 ⟨⟨fb, rfl, hfb⟩, hb6⟩
  have HB6 := Lib.hid (HB5.out.trans (hb6.mono HZ5.out)); have HZ6 : Hid (q ≤ w6.heap.size) := Lib.hid (Nat.le_trans HZ5.out hb6.size)
  have k0 := keep m0 hb6; have k1 := keep m1 hb6; have k2 := keep m2 hb6; have k3 := keep m3 hb6; have y0 := keep x0 hb6; have y1 := keep x1 hb6
  have HBk6 := Lib.hid (HBk5.out.below hb6)
  have HFb := Lib.hid hfb
  clear m0 m1 m2 m3 x0 x1 hb6 HBk5 hfb
  cases fb
  rotate_left
  · go_wp2_with fail
    refine (HK.out _).mono ?_; rintro e w7 ⟨rfl, hb7⟩
    go_wp2_with fail
    go_ret
    exact ⟨rfl, by rw [HQ.out]; exact HB6.out.trans (hb7.mono HZ6.out)⟩
  have HRs2 := Lib.hid (HRs.out (HFb.out rfl))
  clear HRs HFb
  go_wp2_with fail
  refine (HM.out _ (HW2.out _ HB6.out)).mono ?_; rintro e w7 ⟨⟨g, rfl, hmo⟩, hb7⟩
  have HB7 := Lib.hid (HB6.out.trans (hb7.mono HZ6.out)); have HZ7 : Hid (q ≤ w7.heap.size) := Lib.hid (Nat.le_trans HZ6.out hb7.size)
  have m0 := keep k0 hb7; have m1 := keep k1 hb7; have x0 := keep y0 hb7; have x1 := keep y1 hb7
  have HBk7 := Lib.hid (HBk6.out.below hb7)
  have HMe := Lib.hid (bin_owns hmo)
  clear k0 k1 k2 k3 y0 y1 hb7 HBk6 hmo
  go_wp2_with fail
  refine (HEx.out (by first | rfl | trivial) g 32768 _ (HI2.out _ HB7.out) HMe.out).mono ?_; rintro e w8 ⟨⟨g2, c2, rfl, ho2⟩, hb8⟩
  have HB8 := Lib.hid (HB7.out.trans (hb8.mono HZ7.out)); have HZ8 : Hid (q ≤ w8.heap.size) := Lib.hid (Nat.le_trans HZ7.out hb8.size)
  have k0 := keep x0 hb8; have k1 := keep x1 hb8
  have HBk8 := Lib.hid (HBk7.out.below hb8)
  have HMe8 := Lib.hid (HMe.out.below hb8)
  have HA1 := Lib.hid (bin_owns ho2)
  clear m0 m1 x0 x1 hb8 HBk7 HMe ho2
  by_cases he : e1 = 1 ∨ e1 = 2
  rotate_left
  · have h1 : (e1 != 1) = true := bne_iff_ne.2 (fun h => he (.inl h))
    have h2 : (e1 != 2) = true := bne_iff_ne.2 (fun h => he (.inr h))
    clear he
    go_wp2_with fail
    refine (HK.out _).mono ?_; rintro e w9 ⟨rfl, hb9⟩
    go_wp2_with fail
    go_ret
    exact ⟨rfl, by rw [HQ.out]; exact HB8.out.trans (hb9.mono HZ8.out)⟩
  obtain ⟨hme, hee⟩ := HRs2.out he
  obtain rfl : e2 = e1 := hee
  have HAp := Lib.hid (fun u c3 g3 (h2 : BIn u (some ⟨g2, 0, none⟩) a1) (h3 : BIn u (some ⟨g3, 0, none⟩) a2) => (by
    have := Apart_near a1 a2 places (some ⟨g2, 0, none⟩) (some ⟨g3, 0, none⟩) c2 c3 u hme hp2 h2 h3 (by rw [HMl.out.1]; omega)
    rwa [HMl.out.1, HMl2.out] at this : Calls Try.prog 12 #[.slice (some ⟨g2, 0, none⟩) 32768 c2, .slice (some ⟨g3, 0, none⟩) 32768 c3, .int .i64 (places : Nat)] u fun e w' => e = .returned (.bool true) ∧ Below u.heap.size u w'))
  have hn2 : (n1 : Int) ≤ 2000 := by have := HMl.out.2; omega
  have hee2 : (e2 == e2) = true := by simp
  have HEw := Lib.hid (HEz.out g 32768 w8 HBk8.out HMe8.out)
  rw [HMl.out.1] 
  rw [HMl2.out] at HEw
  clear hme HEz
  have hq1 : ((e2 != 1) && (e2 != 2)) = false := by rcases he with rfl | rfl <;> rfl
  rcases he with rfl | rfl
  all_goals
    go_wp2_with fail
    refine HEw.out.mono ?_; rintro e w9 ⟨⟨g3, c3, rfl, ho3⟩, hb9⟩
    have HB9 := Lib.hid (HB8.out.trans (hb9.mono HZ8.out)); have HZ9 : Hid (q ≤ w9.heap.size) := Lib.hid (Nat.le_trans HZ8.out hb9.size)
    have HAp9 := Lib.hid (HAp.out w9 c3 g3 (HA1.out.below hb9) (bin_owns ho3))
    clear hb9 ho3 k0 k1
    go_wp2_with fail
    refine HAp9.out.mono ?_; rintro e wa ⟨rfl, hba⟩
    have HBa := Lib.hid (HB9.out.trans (hba.mono HZ9.out)); have HZa : Hid (q ≤ wa.heap.size) := Lib.hid (Nat.le_trans HZ9.out hba.size)
    clear hba
    go_wp2_with fail
    refine (HK.out _).mono ?_; rintro e wb ⟨rfl, hbb⟩
    go_wp2_with fail
    go_ret
    exact ⟨rfl, by rw [HQ.out]; exact HBa.out.trans (hbb.mono HZa.out)⟩
end Go.Proofs.Ytjfpaelmcepidaa.PK
