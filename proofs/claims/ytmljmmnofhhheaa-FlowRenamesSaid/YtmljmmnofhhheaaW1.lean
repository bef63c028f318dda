/- The walk of reach and of the visit in it. -/
import Derived.Test.YtmljmmnofhhheaaD
namespace Go.Proofs.Ytmljmmnofhhheaa
open Go.RowKit

/-- What the closure of reach captured. -/
structure RCtx (W0 w : World) (pb q pg pv : Nat) (but : Int) (a : Option Addr) (n cap : Nat) : Prop where
  base : Below W0.heap.size W0 w
  hq : W0.heap.size ≤ q
  cb : w.cell? ⟨pb, 0, none⟩ = some (.int .i64 but)
  cg : w.cell? ⟨pg, 0, none⟩ = some (.slice a n cap)
  cv : w.cell? ⟨pv, 0, none⟩ = some (.func (.func 72) #[] #[.pointer (some ⟨pb, 0, none⟩), .pointer (some ⟨q, 0, none⟩), .pointer (some ⟨pg, 0, none⟩), .pointer (some ⟨pv, 0, none⟩)])
  nb : pb ≠ q
  ng : pg ≠ q
  nv : pv ≠ q
theorem RCtx.touch {W0 w w' : World} {pb q pg pv : Nat} {but : Int} {a : Option Addr} {n cap : Nat} (h : RCtx W0 w pb q pg pv but a n cap) (t : Touch q w w') : RCtx W0 w' pb q pg pv but a n cap :=
  ⟨h.base.trans (t.below h.hq), h.hq, by rw [t.cell h.nb]; exact h.cb, by rw [t.cell h.ng]; exact h.cg, by rw [t.cell h.nv]; exact h.cv, h.nb, h.ng, h.nv⟩

def VisitPost (g : Gr) (but : Int) (v : Nat) (S : NSet) (q : Nat) (w : World) (e : Ending) (w' : World) : Prop :=
  e = .returned (.tuple #[]) ∧ ∃ S', Dfs g but v S S' ∧ Ten w' q S' ∧ Touch q w w'

set_option maxRecDepth 100000 in
set_option maxHeartbeats 1000000 in
theorem visit_any (W0 : World) (pb q pg pv : Nat) (but : Int) (a : Option Addr) (cap : Nat) (g : Gr) (hg : GraphIn W0 a g) (ok : OkG g) (f : Nat) :
    ∀ (v : Nat) (S : NSet) (w : World), cnt S < f → v < g.length → RCtx W0 w pb q pg pv but a g.length cap → Ten w q S →
    Calls Try.prog 72 #[.int .i64 v, .pointer (some ⟨pb, 0, none⟩), .pointer (some ⟨q, 0, none⟩), .pointer (some ⟨pg, 0, none⟩), .pointer (some ⟨pv, 0, none⟩)] w (VisitPost g but v S q w) := by
  have hf := ok.fits; have hn := ok.ten
  induction f with
  | zero => intro v S w h; omega
  | succ f ih =>
    intro v S w hc hv C T
    have c1 := C.cb
    have c2 := T.cell (k := v) (by omega)
    have hv10 : v < 10 := by omega
    have hn' : (g.length : Int) ≤ 10 := by omega
    by_cases hb : (v : Int) = but
    · have hbb : ((v : Int) == but) = true := by simpa using hb
      have HB := Lib.hid hb; clear hb
      have HT := Lib.hid T; have HC := Lib.hid C; clear T C ih hg
      go_enter Try.func72, Try.ntmps72
      go_wp2_with fail
      go_end0
      exact ⟨rfl, S, Dfs.but HB.out, HT.out, Touch.refl _ _⟩
    · have hbb : ((v : Int) == but) = false := by simpa using hb
      cases hs : S v
      · rw [hs] at c2
        have f1 := T.free v
        have hlt := cnt_mark hv10 hs
        have hb' := Lib.hid hb
        have IH := Lib.hid ih; clear ih
        have t1 := Touch.set w q v (.bool true)
        have C1 := C.touch t1
        have T1 := T.mark hv10
        have k1 := C1.cg
        obtain ⟨b, off, a', cap', rfl, hcell0, hrow⟩ := hg v hv
        have hcell := keep hcell0 C1.base
        have HR := Lib.hid hrow
        have HT := Lib.hid T1; have HC0 := Lib.hid C; have HTo := Lib.hid t1; have HG := Lib.hid hg; have HS := Lib.hid hs; have HL := Lib.hid hlt; have HCn := Lib.hid hc
        clear T C hg hb T1 C1 t1 hs hlt hc hrow hcell0
        go_enter Try.func72, Try.ntmps72
        go_wp2_with fail
        go_loopw [23] (fun i wr => ∃ (k : Nat) (Sk : NSet), k ≤ (succ g v).length ∧ i = .int .i64 k ∧ DfsL g but v k (mark S v) Sk ∧ Ten wr q Sk ∧ Touch q w wr) (fun i _ => (succ g v).length - (intOf i).toNat)
        case atStart => exact ⟨0, mark S v, Nat.zero_le _, rfl, DfsL.zero, HT.out, HTo.out⟩
        case round =>
          obtain ⟨k, Sk, hk, rfl, hd, hT, hTo⟩ := hrel
          have hdg := ok.deg v
          by_cases hlt : k < (succ g v).length
          · have Ck := HC0.out.touch hTo
            have cv := Ck.cv
            obtain ⟨b2, off2, rfl, hx⟩ := HR.out.below Ck.base k hlt
            have hxl := hf v _ (getD_mem hlt)
            have hcnt : cnt Sk < f := by have := cnt_le hd.sub; have := HL.out; have := HCn.out; omega
            have HD := Lib.hid hd; have HK := Lib.hid Ck; have HTk := Lib.hid hT; have HTok := Lib.hid hTo
            clear hd Ck hT hTo
            have HX := Lib.hid (IH.out ((succ g v).getD k 0) Sk wr hcnt hxl HK.out HTk.out)
            generalize hxx : (succ g v).getD k 0 = x at *
            have HXX := Lib.hid hxx; clear hxx
            go_wp2_with (first | (go_at_call 72; refine HX.out.mono ?_; rintro e w2 ⟨rfl, S2, hd2, hT2, hTo2⟩))
            go_roundw
            case rel => exact ⟨k + 1, S2, by omega, by go_num, HD.out.next hb'.out hlt (by rw [HXX.out]; exact hd2), hT2, HTok.out.trans hTo2⟩
            case measure => simp [intOf]; omega
          · obtain rfl : k = (succ g v).length := by omega
            go_wp2_with fail
            go_end0
            exact ⟨rfl, Sk, DfsL.fin hb'.out hd, hT, hTo⟩
      · rw [hs] at c2
        have HS := Lib.hid hs
        have HT := Lib.hid T; have HC := Lib.hid C; clear T C ih hg hs hb
        go_enter Try.func72, Try.ntmps72
        go_wp2_with fail
        go_end0
        exact ⟨rfl, S, Dfs.seen HS.out, HT.out, Touch.refl _ _⟩

set_option maxRecDepth 100000 in
set_option maxHeartbeats 1000000 in
theorem reach_any (a : Option Addr) (cap : Nat) (g : Gr) (but : Int) (w : World) (hg : GraphIn w a g) (ok : OkG g) :
    Calls Try.prog 44 #[.slice a g.length cap, .int .i64 but] w fun e w' => e = .returned (tenV (rs g but 0)) ∧ Below w.heap.size w w' := by
  have hv := visit_any w (w.heap.size + 1) (w.heap.size + 1 + 1 + 1) w.heap.size (w.heap.size + 1 + 1 + 1 + 1) but a cap g hg ok 11 0 (fun _ => false)
  have HV := Lib.hid hv; clear hv
  have HG := Lib.hid hg; clear hg
  go_enter Try.func44, Try.ntmps44
  go_wp2_with fail
  refine (HV.out _ (by have := cnt_ten (fun _ => false); omega) ok.pos ⟨?_, ?_, ?_, ?_, ?_, ?_, ?_, ?_⟩ ?_).mono ?_
  · exact (((((Below.refl _ _).alloc (Nat.le_refl _) _).alloc (by simp only [World.size_alloc]; omega) _).alloc (by simp only [World.size_alloc]; omega) _).alloc (by simp only [World.size_alloc]; omega) _).alloc (by simp only [World.size_alloc]; omega) _
  · omega
  · simp [go_sem]
  · simp [go_sem]
  · simp [go_sem]
  · omega
  · omega
  · omega
  · unfold Ten
    rw [heap_past _ _ _ (by simp only [World.size_alloc]; omega)]
    exact heap_at _ _ _ (by simp only [World.size_alloc])
  rintro e w2 ⟨rfl, S2, hd2, hT2, hTo2⟩
  have hD2 : Ten w2 (w.heap.size + 1 + 1) (fun _ => false) := by
    unfold Ten
    rw [hTo2.block _ (by omega)]
    rw [heap_past _ _ _ (by simp only [World.size_alloc]; omega), heap_past _ _ _ (by simp only [World.size_alloc]; omega)]
    exact heap_at _ _ _ (by simp only [World.size_alloc])
  have c0 := hT2.cell (k := 0) (by decide); have c1 := hT2.cell (k := 1) (by decide); have c2 := hT2.cell (k := 2) (by decide); have c3 := hT2.cell (k := 3) (by decide); have c4 := hT2.cell (k := 4) (by decide)
  have c5 := hT2.cell (k := 5) (by decide); have c6 := hT2.cell (k := 6) (by decide); have c7 := hT2.cell (k := 7) (by decide); have c8 := hT2.cell (k := 8) (by decide); have c9 := hT2.cell (k := 9) (by decide)
  have d0 := hD2.cell (k := 0) (by decide); have d1 := hD2.cell (k := 1) (by decide); have d2 := hD2.cell (k := 2) (by decide); have d3 := hD2.cell (k := 3) (by decide); have d4 := hD2.cell (k := 4) (by decide)
  have d5 := hD2.cell (k := 5) (by decide); have d6 := hD2.cell (k := 6) (by decide); have d7 := hD2.cell (k := 7) (by decide); have d8 := hD2.cell (k := 8) (by decide); have d9 := hD2.cell (k := 9) (by decide)
  have f0 := hD2.free 0; have f1 := hD2.free 1; have f2 := hD2.free 2; have f3 := hD2.free 3; have f4 := hD2.free 4
  have f5 := hD2.free 5; have f6 := hD2.free 6; have f7 := hD2.free 7; have f8 := hD2.free 8; have f9 := hD2.free 9
  have HT2 := Lib.hid hT2; have HD2 := Lib.hid hD2; have HTo2 := Lib.hid hTo2; have Hd2 := Lib.hid hd2; clear hT2 hD2 hTo2 hd2
  go_wp2_with fail
  have T3 := HD2.out.fill S2
  have To3 := Touch.fill w2 (w.heap.size + 1 + 1) S2
  show bodyPost _ _ _ _ _ (fill w2 (w.heap.size + 1 + 1) S2)
  generalize fill w2 (w.heap.size + 1 + 1) S2 = w3 at *
  refine bodyPost_ret (v := tenV S2) (results_ten (p := 4) rfl _ _ _ _ rfl T3) rfl ⟨by rw [Hd2.out.all], ?_⟩
  refine Below.trans ?_ (To3.below (by omega))
  refine Below.trans ?_ (HTo2.out.below (by omega))
  exact (((((Below.refl _ _).alloc (Nat.le_refl _) _).alloc (by simp only [World.size_alloc]; omega) _).alloc (by simp only [World.size_alloc]; omega) _).alloc (by simp only [World.size_alloc]; omega) _).alloc (by simp only [World.size_alloc]; omega) _
end Go.Proofs.Ytmljmmnofhhheaa
