/- The walks of the specification's Validate, of latency and Latency on both sides. -/
import Derived.Test.YtccpjfppkahbmaaT3
import Derived.Test.YtccpjfppkahbmaaP1
namespace Go.Proofs.Ytccpjfppkahbmaa
open Go.RowKit PK

theorem right_ok (x : Cd) (w : World) : Calls Try.prog 48 #[(.agg #[.int .i64 x.op, .int .i64 x.d, .int .i64 x.a, .int .i64 x.b, .int .u32 x.im, .int .i64 x.to])] w fun e w' => e = .returned (.bool (okC x)) ∧ Below w.heap.size w w' := by
  rw [← rightR_ok]; exact right_any x w
theorem tErr_bad {l : List Cd} {k : Nat} (h : ¬ 40 < l.length) (hk : k < l.length) (hx : okC (atC l k) = false) : tErr l = 1 := by
  unfold tErr
  rw [if_neg h, if_neg]
  intro ha
  rw [List.all_eq_true] at ha
  rw [ha _ (atC_mem hk)] at hx; cases hx
theorem tErr_ok {l : List Cd} (h : ¬ 40 < l.length) (ha : ∀ k, k < l.length → okC (atC l k) = true) : tErr l = 0 := by
  unfold tErr
  rw [if_neg h, if_pos]
  rw [List.all_eq_true]
  intro x hx
  obtain ⟨k, hk, rfl⟩ := mem_atC hx
  exact ha k hk
set_option maxHeartbeats 1000000 in
theorem rValidate_any (l : List Cd) (a : Option Addr) (cap : Nat) (w : World) (hin : CdsIn w a l) (hl : l.length ≤ 1099511627776) :
    Calls Try.prog 19 #[.slice a l.length cap] w fun e w' => e = .returned (.int .i64 (tErr l)) ∧ Below w.heap.size w w' := by
  have HI := Lib.hid hin
  clear hin
  by_cases hb : 40 < l.length
  · have HE := Lib.hid (tErr_big hb)
    go_enter Try.func19, Try.ntmps19
    go_wp2_with fail
    go_ret
    exact ⟨ret_int HE.out.symm, Below.refl _ _⟩
  have HBad := Lib.hid (fun k hk hx => tErr_bad (k := k) hb hk hx)
  have HOk := Lib.hid (tErr_ok hb)
  go_enter Try.func19, Try.ntmps19
  go_wp2_with fail
  go_loopw [3] (fun i wr => ∃ k : Nat, k ≤ l.length ∧ i = .int .i64 k ∧ (∀ j, j < k → okC (atC l j) = true) ∧ Below w.heap.size w wr) (fun i _ => l.length - (intOf i).toNat)
  case atStart => exact ⟨0, Nat.zero_le _, rfl, fun j hj => absurd hj (Nat.not_lt_zero _), Below.refl _ _⟩
  case round =>
    obtain ⟨k, hk, rfl, hny, hb⟩ := hrel
    have HB := Lib.hid hb; have HN := Lib.hid hny; clear hny
    by_cases hlt : k < l.length
    · obtain ⟨b, off, rfl, hc⟩ := HI.out.below hb k hlt
      have HBk := Lib.hid (HBad.out k hlt)
      have HR := Lib.hid (fun b (h : okC (atC l k) = b) (u : World) => h ▸ right_ok (atC l k) u)
      clear hb
      generalize hx : atC l k = x at *
      have HX := Lib.hid hx; clear hx
      obtain ⟨x0, x1, x2, x3, x4, x5⟩ := x
      obtain ⟨c0, c1, c2, c3, c4, c5⟩ := hc
      simp only at c0 c1 c2 c3 c4 c5
      have HR : Hid (∀ b, okC ⟨x0, x1, x2, x3, x4, x5⟩ = b → ∀ u : World, Calls Try.prog 48 #[.agg #[.int .i64 x0, .int .i64 x1, .int .i64 x2, .int .i64 x3, .int .u32 x4, .int .i64 x5]] u fun e w' => e = .returned (.bool b) ∧ Below u.heap.size u w') := HR
      cases hok : okC ⟨x0, x1, x2, x3, x4, x5⟩
      · have HRk := Lib.hid (HR.out false hok)
        have HE := Lib.hid (HBk.out hok)
        clear hok HR
        go_wp2_with fail
        refine (HRk.out _).mono ?_; rintro e w2 ⟨rfl, hb2⟩
        have HB2 := Lib.hid (HB.out.trans (hb2.mono HB.out.size))
        clear hb2
        go_wp2_with fail
        go_ret
        exact ⟨ret_int HE.out.symm, HB2.out⟩
      · have HRk := Lib.hid (HR.out true hok)
        have HOkk := Lib.hid hok
        clear hok HR
        go_wp2_with fail
        refine (HRk.out _).mono ?_; rintro e w2 ⟨rfl, hb2⟩
        have HB2 := Lib.hid (HB.out.trans (hb2.mono HB.out.size))
        clear hb2
        go_wp2_with fail
        go_roundw
        case rel => exact ⟨k + 1, by omega, by go_num, fun j hj => by
          by_cases e : j = k
          · rw [e, HX.out]; exact HOkk.out
          · exact HN.out j (by omega), HB2.out⟩
        case measure => simp [intOf]; omega
    · clear hb
      have HE := Lib.hid (HOk.out fun j hj => HN.out j (by omega))
      go_wp2_with fail
      go_ret
      exact ⟨ret_int HE.out.symm, HB.out⟩
def LatPost (op : Int) (w : World) (e : Ending) (w' : World) : Prop := e = .returned (.int .i64 (lat op)) ∧ w = w'
theorem lat_post {op v : Int} (w : World) (h : v = lat op) : LatPost op w (.returned (.int .i64 v)) w := ⟨ret_int h, rfl⟩
def latE (op : Int) : Int := if 0 ≤ op ∧ op ≤ 23 then 0 else 1
def latV (op : Int) : Int := if 0 ≤ op ∧ op ≤ 23 then lat op else 0
theorem tLat_any (op : Int) (w : World) : Calls Try.prog 43 #[.int .i64 op] w (LatPost op w) := by
  go_enter Try.func43, Try.ntmps43
  go_upto_region 1 with (fail)
  by_cases h1 : op = 4
  · go_wp2_with fail
    go_ret
    exact lat_post _ (by subst h1; rfl)
  by_cases h2 : 5 ≤ op ∧ op ≤ 8
  · obtain ⟨h2a, h2b⟩ := h2
    go_wp2_with fail
    go_ret
    exact lat_post _ (by unfold lat; rw [if_neg h1, if_pos ⟨h2a, h2b⟩])
  by_cases h3 : 18 ≤ op ∧ op ≤ 20
  · obtain ⟨h3a, h3b⟩ := h3
    go_wp2_with fail
    go_ret
    exact lat_post _ (by unfold lat; rw [if_neg h1, if_neg h2, if_pos ⟨h3a, h3b⟩])
  by_cases h4 : op < 5
  · go_wp2_with fail
    go_ret
    exact lat_post _ (by unfold lat; rw [if_neg h1, if_neg h2, if_neg h3])
  by_cases h5 : op < 18
  · have h6 : 8 < op := by omega
    go_wp2_with fail
    go_ret
    exact lat_post _ (by unfold lat; rw [if_neg h1, if_neg h2, if_neg h3])
  · have h6 : 20 < op := by omega
    go_wp2_with fail
    go_ret
    exact lat_post _ (by unfold lat; rw [if_neg h1, if_neg h2, if_neg h3])
theorem rLat_any (op : Int) (w : World) : Calls Try.prog 44 #[.int .i64 op] w (LatPost op w) := by
  go_enter Try.func44, Try.ntmps44
  go_upto_region 1 with (fail)
  by_cases h1 : op = 4
  · go_wp2_with fail
    go_ret
    exact lat_post _ (by subst h1; rfl)
  by_cases h2 : 5 ≤ op ∧ op ≤ 8
  · obtain ⟨h2a, h2b⟩ := h2
    go_wp2_with fail
    go_ret
    exact lat_post _ (by unfold lat; rw [if_neg h1, if_pos ⟨h2a, h2b⟩])
  by_cases h3 : 18 ≤ op ∧ op ≤ 20
  · obtain ⟨h3a, h3b⟩ := h3
    go_wp2_with fail
    go_ret
    exact lat_post _ (by unfold lat; rw [if_neg h1, if_neg h2, if_pos ⟨h3a, h3b⟩])
  by_cases h4 : op < 5
  · go_wp2_with fail
    go_ret
    exact lat_post _ (by unfold lat; rw [if_neg h1, if_neg h2, if_neg h3])
  by_cases h5 : op < 18
  · have h6 : 8 < op := by omega
    go_wp2_with fail
    go_ret
    exact lat_post _ (by unfold lat; rw [if_neg h1, if_neg h2, if_neg h3])
  · have h6 : 20 < op := by omega
    go_wp2_with fail
    go_ret
    exact lat_post _ (by unfold lat; rw [if_neg h1, if_neg h2, if_neg h3])
def LatencyPost (op : Int) (w : World) (e : Ending) (w' : World) : Prop := e = .returned (.tuple #[.int .i64 (latV op), .int .i64 (latE op)]) ∧ w = w'
theorem latency_post {op v c : Int} (w : World) (h : v = latV op) (h2 : c = latE op) : LatencyPost op w (.returned (.tuple #[.int .i64 v, .int .i64 c])) w := ⟨by rw [h, h2], rfl⟩
theorem tLatency_any (op : Int) (w : World) : Calls Try.prog 16 #[.int .i64 op] w (LatencyPost op w) := by
  go_enter Try.func16, Try.ntmps16
  go_upto_region 1 with (fail)
  by_cases h0 : op < 0
  · go_wp2_with fail
    go_ret2
    exact latency_post _ (by unfold latV; rw [if_neg (by omega)]) (by unfold latE; rw [if_neg (by omega)])
  by_cases h1 : 23 < op
  · go_wp2_with fail
    go_ret2
    exact latency_post _ (by unfold latV; rw [if_neg (by omega)]) (by unfold latE; rw [if_neg (by omega)])
  have HL := Lib.hid (tLat_any op)
  go_wp2_with fail
  refine (HL.out _).mono ?_; rintro e w9 ⟨rfl, rfl⟩
  go_wp2_with fail
  go_ret2
  exact latency_post _ (by unfold latV; rw [if_pos (by omega)]) (by unfold latE; rw [if_pos (by omega)])
theorem rLatency_any (op : Int) (w : World) : Calls Try.prog 17 #[.int .i64 op] w (LatencyPost op w) := by
  go_enter Try.func17, Try.ntmps17
  go_upto_region 1 with (fail)
  by_cases h0 : op < 0
  · go_wp2_with fail
    go_ret2
    exact latency_post _ (by unfold latV; rw [if_neg (by omega)]) (by unfold latE; rw [if_neg (by omega)])
  by_cases h1 : 23 < op
  · go_wp2_with fail
    go_ret2
    exact latency_post _ (by unfold latV; rw [if_neg (by omega)]) (by unfold latE; rw [if_neg (by omega)])
  have HL := Lib.hid (rLat_any op)
  go_wp2_with fail
  refine (HL.out _).mono ?_; rintro e w9 ⟨rfl, rfl⟩
  go_wp2_with fail
  go_ret2
  exact latency_post _ (by unfold latV; rw [if_pos (by omega)]) (by unfold latE; rw [if_pos (by omega)])
end Go.Proofs.Ytccpjfppkahbmaa
