/- The walks of time.few, Count, Best. -/
import Derived.Test.YtccpjfppkahbmaaB4
namespace Go.Proofs.Ytccpjfppkahbmaa
open Go.RowKit Go.Shelf PK

attribute [local go_sem] Oper.semAt_some

def fewE (l : List Cd) : Int := if tErr l = 0 then (if l.length ≤ 6 then 0 else 3) else tErr l
theorem fewE_zero {l : List Cd} (h : fewE l = 0) : tErr l = 0 ∧ l.length ≤ 6 := by
  unfold fewE at h
  split at h
  · rename_i h1
    split at h
    · rename_i h2; exact ⟨h1, h2⟩
    · cases h
  · rename_i h1; exact absurd h h1
theorem few_any (l : List Cd) (a : Option Addr) (cap : Nat) (w : World) (hin : CdsIn w a l) (hl : l.length ≤ 1099511627776) :
    Calls Try.prog 56 #[.slice a l.length cap] w fun e w' => e = .returned (.int .i64 (fewE l)) ∧ Below w.heap.size w w' := by
  have HV := Lib.hid (tValidate_any l a cap w hin hl)
  have HF : Hid (fewE l = if tErr l = 0 then (if l.length ≤ 6 then 0 else 3) else tErr l) := Lib.hid rfl
  clear hin
  generalize fewE l = fe at *
  generalize l.length = n at *
  by_cases hz : tErr l = 0
  · rw [hz] at HV HF
    clear hz
    by_cases h6 : n ≤ 6
    · have h6i : (n : Int) ≤ 6 := by omega
      have hfe : fe = 0 := by rw [HF.out]; simp [h6]
      subst hfe
      clear HF h6
      go_enter Try.func56, Try.ntmps56
      go_wp2_with fail
      refine HV.out.mono ?_; rintro e w2 ⟨rfl, hb2⟩
      go_wp2_with fail
      go_ret
      exact ⟨rfl, hb2⟩
    · have h6i : (6 : Int) < (n : Int) := by omega
      have hfe : fe = 3 := by rw [HF.out]; simp [h6]
      subst hfe
      clear HF h6
      go_enter Try.func56, Try.ntmps56
      go_wp2_with fail
      refine HV.out.mono ?_; rintro e w2 ⟨rfl, hb2⟩
      go_wp2_with fail
      go_ret
      exact ⟨rfl, hb2⟩
  · have hfe : fe = tErr l := by rw [HF.out, if_neg hz]
    subst hfe
    clear HF
    generalize tErr l = te at *
    go_enter Try.func56, Try.ntmps56
    go_wp2_with fail
    refine HV.out.mono ?_; rintro e w2 ⟨rfl, hb2⟩
    go_wp2_with fail
    go_ret
    exact ⟨rfl, hb2⟩
theorem inO_put (n : Nat) (x : Value × List Int) (A : World) (r : Nat) (o o' : Obj) (h : InO n x A) (hr : A.heap[r]? = some o) (ho : o.isCells = false) : InO n x (A.putObj r o') := by
  obtain ⟨h1, a, cap, h2, h3⟩ := h
  refine ⟨h1, a, cap, h2, fun k hk => ?_⟩
  obtain ⟨b, off, rfl, hc⟩ := h3 k hk
  exact ⟨b, off, rfl, Go.cell_kept hc (grownBy_putObj' A r o') (fun r' e => by cases e; exact ⟨o, hr, ho⟩)⟩
theorem flatMap_le {α β : Type} (f : α → List β) (c : Nat) : ∀ L : List α, (∀ x, x ∈ L → (f x).length ≤ c) → (L.flatMap f).length ≤ L.length * c
  | [], _ => by simp
  | a :: L, h => by
    have h1 := flatMap_le f c L (fun x hx => h x (List.mem_cons_of_mem _ hx))
    have h2 := h a List.mem_cons_self
    rw [List.flatMap_cons, List.length_append, List.length_cons, Nat.succ_mul]
    omega
theorem dfsL_pow (l : List Cd) : ∀ (r : Nat) (o : List Int), (dfsL l r o).length ≤ l.length ^ r
  | 0, o => by simp [dfsL]
  | r + 1, o => by
    have := flatMap_le (fun k : Nat => if openB l o k = true then dfsL l r (o ++ [(k : Int)]) else []) (l.length ^ r) (List.range l.length) (fun k _ => by
      split
      · exact dfsL_pow l r _
      · exact Nat.zero_le _)
    rw [List.length_range] at this
    rw [Nat.pow_succ, Nat.mul_comm]
    exact this
theorem dfsL_len (l : List Cd) (h : l.length ≤ 6) : (dfsL l l.length []).length ≤ 46656 := by
  refine Nat.le_trans (dfsL_pow l _ _) ?_
  rcases Nat.lt_or_ge 0 l.length with h0 | h0
  · exact Nat.le_trans (Nat.pow_le_pow_left h _) (Nat.pow_le_pow_right (by omega) h)
  · rw [show l.length = 0 by omega]; decide
def countV (l : List Cd) : Int := if fewE l = 0 then ((dfsL l l.length []).length : Int) else 0
def CountPost (l : List Cd) (w : World) (e : Ending) (w' : World) : Prop := e = .returned (.tuple #[.int .i64 (countV l), .int .i64 (fewE l)]) ∧ Below w.heap.size w w'
set_option maxRecDepth 100000 in
set_option maxHeartbeats 4000000 in
theorem Count_any (l : List Cd) (a : Option Addr) (cap : Nat) (w : World) (hin : CdsIn w a l) (hlc : l.length ≤ cap) (hl : l.length ≤ 1099511627776) :
    Calls Try.prog 29 #[.slice a l.length cap] w (CountPost l w) := by
  have HFw := Lib.hid (few_any l a cap w hin hl)
  unfold CountPost countV
  by_cases hz : fewE l = 0
  · obtain ⟨hz1, h6⟩ := fewE_zero hz
    obtain ⟨_, hok⟩ := tErr_zero hz1
    rw [if_pos hz, hz]
    rw [hz] at HFw
    have HI := Lib.hid hin
    refine (callsIn_wide (n := 3)).1 ?_
    refine callsIn_of_wp_marks Try.func29 rfl trivial ?_ rfl
    simp only [Try.ntmps29, List.size_toArray, List.length_cons, List.length_nil, Nat.reduceAdd, Nat.reduceSub, Array.replicate_succ, Array.replicate_zero, List.push_toArray, List.append_toArray, List.nil_append, List.cons_append]
    gi_wp2_with fail
    refine ⟨trivial, ?_⟩
    refine (callsIn_wide.2 HFw.out).mono ?_; rintro e w2 ⟨rfl, hb2⟩
    have HB2 := Lib.hid hb2
    clear hb2
    gi_wp2_with fail
    refine ⟨trivial, ?_⟩
    refine (callsIn_wide.2 (orders_any _ _ _ _)).mono ?_; rintro e w3 ⟨rfl, rfl⟩
    gi_wp2_with fail
    have hal := (((Below.refl w2.heap.size w2).alloc (Nat.le_refl _) (.cells #[.int .i64 0] 3)).alloc (by simp) (.cells #[.slice a l.length cap] 22))
    have hbn := (Boxed.new w2 3 (.int .i64 0)).alloc (.cells #[.slice a l.length cap] 22)
    have hcl := (Boxed.new (w2.alloc (.cells #[.int .i64 0] 3)) 22 (.slice a l.length cap)).cell
    have hsz : ((w2.alloc (.cells #[.int .i64 0] 3)).alloc (.cells #[.slice a l.length cap] 22)).heap.size = w2.heap.size + 2 := by simp
    rw [World.size_alloc] at hcl
    obtain ⟨W0, hW0⟩ : ∃ W0, (w2.alloc (.cells #[.int .i64 0] 3)).alloc (.cells #[.slice a l.length cap] 22) = W0 := ⟨_, rfl⟩
    rw [hW0] at hal hbn hcl hsz ⊢
    have hws := HB2.out.size
    have hB0 := HB2.out.trans (hal.mono hws)
    have hin0 := HI.out.below hB0
    clear hW0 hal HFw HI
    refine wpIn_rangeFunc_mine rfl (by omega) (gf := 91) (lb := #[.pointer (some ⟨w2.heap.size + 1, 0, none⟩)]) rfl trivial (enters_of Try.func91 (by kernel_rfl) rfl)
      (orders_seq l h6 hok a cap hlc (w2.heap.size + 1) 2 w.heap.size W0 hin0 hcl) (by omega) (fun k hk => by omega) (fun _ => rfl) (inO_put l.length)
      (fun pre _ W => Boxed W w2.heap.size 3 (.int .i64 (pre.length : Int)) ∧ Below w.heap.size w W) ?abides ⟨hbn, hB0⟩
      (fun x => { tmps := #[.slice a l.length cap, undef, .int .i64 0, .int .i64 0, .int .i64 0, .pointer (some ⟨w2.heap.size, 0, none⟩), .slice a l.length cap, .int .i64 0, .int .i64 0, .bool false, undef, .slice a l.length cap, .func (.func 91) #[] #[.pointer (some ⟨w2.heap.size + 1, 0, none⟩)], x.1, undef, undef, undef], defers := [] }) ?assign ?body ?done
    case abides =>
      rintro s M A A' row ⟨h1, h2⟩ hg hr M' _
      refine ⟨h1.kept hg (fun e => ?_), h2.grown hg h2.size (fun g e => ?_)⟩
      · rcases hr _ e.symm with ⟨h, _⟩ | ⟨_, h⟩ <;> omega
      · rcases hr _ e with ⟨h, _⟩ | ⟨_, h⟩ <;> omega
    case assign =>
      intro L x W K hK
      gi_wp2
      simpa using hK
    case body =>
      rintro L pre M x W ⟨h1, h2⟩ hlt hin hm
      have hc := h1.cell
      have hf := h1.frozen
      have hpl : (pre.length : Int) ≤ 100000 := by
        have := dfsL_len l h6
        omega
      have HM := Lib.hid hm
      have hblt := h1.lt
      clear hm
      gi_wp2
      refine ⟨(KeepsOthers.setCell _ _ _).from _, fun k hk => ?_, (Below.refl _ _).setCell (by exact hws) _, ?_, h2.setCell (by exact hws) _⟩
      · have := (HM.out k hk).1
        exact Below.heap_setCell _ _ _ _ (show k ≠ w2.heap.size by omega)
      · have := h1.set (.int .i64 ((pre.length : Int) + 1))
        rw [List.length_append, List.length_singleton]
        exact this
    case done =>
      rintro D xs M W hD hS ⟨h1, h2⟩ hK
      have hc := h1.cell
      have hxl : xs.length = (dfsL l l.length []).length := by rw [← show xs.map (·.2) = _ from hS, List.length_map]
      have HX := Lib.hid hxl; clear hxl
      gi_wp2
      refine ⟨by simp, .inl ⟨_, _, rfl, run_takeDeferred hK, ?_⟩⟩
      refine ⟨.tuple #[.int .i64 (xs.length : Int), .int .i64 0], by simp [results, Try.results29, go_sem], by rw [← HX.out], ?_⟩
      exact h2.trans (belowK_b (w := w) (Nat.le_refl _) W D _ _ (by omega) hK rfl rfl)
  · rw [if_neg hz]
    generalize fewE l = fe at *
    go_enter Try.func29, Try.ntmps29
    go_wp2_with fail
    refine HFw.out.mono ?_; rintro e w2 ⟨rfl, hb2⟩
    go_wp2_with fail
    go_ret2
    exact ⟨rfl, hb2⟩
end Go.Proofs.Ytccpjfppkahbmaa
