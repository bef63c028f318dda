/- The walk of time.orders: an iterator over the orders. -/
import Derived.Test.YtccpjfppkahbmaaB3
namespace Go.Proofs.Ytccpjfppkahbmaa
open Go.RowKit Go.Shelf PK

attribute [local go_sem] Oper.semAt_some

theorem three_boxes (w : World) (a b c : Value) (ta tb tc : TypeId) (W : World) (hW : ((w.alloc (.cells #[a] ta)).alloc (.cells #[b] tb)).alloc (.cells #[c] tc) = W) :
    Below w.heap.size w W ∧ W.heap.size = w.heap.size + 3 ∧ W.cell? ⟨w.heap.size, 0, none⟩ = some a ∧ Boxed W (w.heap.size + 1) tb b ∧ W.cell? ⟨w.heap.size + 1 + 1, 0, none⟩ = some c := by
  have h1 := World.alloc_heap_new w (.cells #[a] ta)
  have h2 := World.alloc_heap_new (w.alloc (.cells #[a] ta)) (.cells #[b] tb)
  have h3 := World.alloc_heap_new ((w.alloc (.cells #[a] ta)).alloc (.cells #[b] tb)) (.cells #[c] tc)
  simp only [World.size_alloc] at h2 h3
  subst hW
  refine ⟨(((Below.refl _ w).alloc (Nat.le_refl _) _).alloc (by simp) _).alloc (by simp; omega) _, by simp, ?_, ?_, ?_⟩
  · refine cellOf (W := w.alloc (.cells #[a] ta)) (by unfold World.cell?; rw [h1]; rfl) ?_
    rw [heap_past _ _ _ (by simp; omega), heap_past _ _ _ (by simp)]
  · exact (heap_past _ _ _ (by simp)).trans h2
  · unfold World.cell?; rw [h3]; rfl
set_option maxRecDepth 100000 in
set_option maxHeartbeats 4000000 in
theorem orders_seq (l : List Cd) (hl : l.length ≤ 6) (hok : ∀ k, k < l.length → okC (atC l k) = true) (la : Option Addr) (lc : Nat) (hlc : l.length ≤ lc) (Bl m n₀ : Nat) (w : World) (hin : CdsIn w la l) (hbl : w.cell? ⟨Bl, 0, none⟩ = some (.slice la l.length lc)) :
    SeqMine Fence.wide m Try.prog 91 #[.pointer (some ⟨Bl, 0, none⟩)] (fun x : Value × List Int => #[x.1]) (InO l.length) (fun xs => xs.map (·.2) = dfsL l l.length []) (dfsL l l.length []).length n₀ (fun k => k = Bl) w := by
  intro L J W hW hJ hY h0
  have HIn := Lib.hid (hin.below hW)
  have hbl' := keep hbl hW
  have hblt := block_lt_of_cell hbl'
  have HTab := Lib.hid (fun (u : World) h => table_own l la lc u h hlc (by omega) hok)
  have HMore := Lib.hid (fun lo Bo By Bn Bm q hL r m' pre M W v o h1 h2 h3 h4 h5 => more_any l hl lo Bl Bo By Bn Bm q L la lc hL (dfsL l l.length []).length n₀ J hJ (fun m' pre M x W1 a b c d => yieldAt_any rfl m' (hY pre M x W1 a b c d)) r m' pre M W v o h1 h2 h3 h4 h5)
  have HJ := Lib.hid hJ; have H0 := Lib.hid h0
  clear hJ hY h0 hin hbl hok hW
  refine callsIn_of_wp Try.func91 rfl trivial ?_ rfl
  simp only [Try.ntmps91, List.size_toArray, List.length_cons, List.length_nil, Nat.reduceAdd, Nat.reduceSub, Array.replicate_succ, Array.replicate_zero, List.push_toArray, List.append_toArray, List.nil_append, List.cons_append]
  gi_wp2_with fail
  refine ⟨trivial, fun h => (by cases h), ?_⟩
  have hb1 : Below W.heap.size W (W.alloc (.cells #[.func (.yield L) #[] #[]] 108)) := (Below.refl _ _).alloc (Nat.le_refl _) _
  have hcy : (W.alloc (.cells #[.func (.yield L) #[] #[]] 108)).cell? ⟨W.heap.size, 0, none⟩ = some (.func (.yield L) #[] #[]) := by simp [go_sem]
  have hs1 : (W.alloc (.cells #[.func (.yield L) #[] #[]] 108)).heap.size = W.heap.size + 1 := by simp
  refine (callsIn_wide.2 (HTab.out _ (HIn.out.below hb1))).mono ?_; rintro e w2 ⟨⟨q, rfl, hq1, hq2, htab⟩, hb2⟩
  have HB2 := Lib.hid (hb1.trans (hb2.mono hb1.size))
  have HCy := Lib.hid (keep hcy hb2)
  have HCl := Lib.hid (keep hbl' HB2.out)
  have HTb := Lib.hid htab
  rw [hs1] at hq1
  clear hcy hs1 hb1 hb2 htab HTab hbl'
  generalize hy : W.heap.size = By at *
  gi_wp2_with fail
  refine ⟨trivial, fun h => (by cases h), ?_⟩
  have HF := Lib.hid (three_boxes w2 (.slice (some ⟨q, 0, none⟩) l.length l.length) (.slice none 0 0) (.func (.func 92) #[] #[.pointer (some ⟨w2.heap.size + 1, 0, none⟩), .pointer (some ⟨Bl, 0, none⟩), .pointer (some ⟨By, 0, none⟩), .pointer (some ⟨w2.heap.size, 0, none⟩), .pointer (some ⟨w2.heap.size + 1 + 1, 0, none⟩)]) 76 25 24 _ rfl)
  generalize ((w2.alloc (.cells #[.slice (some ⟨q, 0, none⟩) l.length l.length] 76)).alloc (.cells #[.slice none 0 0] 25)).alloc (.cells #[.func (.func 92) #[] #[.pointer (some ⟨w2.heap.size + 1, 0, none⟩), .pointer (some ⟨Bl, 0, none⟩), .pointer (some ⟨By, 0, none⟩), .pointer (some ⟨w2.heap.size, 0, none⟩), .pointer (some ⟨w2.heap.size + 1 + 1, 0, none⟩)]] 24) = wF at *
  obtain ⟨hbF, hsF, cF0, cF1, cF2⟩ := HF.out
  have hB2 := HB2.out.size
  rw [hy] at hB2
  have hBW := HB2.out.trans (hbF.mono hB2)
  have hL : OrdLt (w2.heap.size + 3) Bl (w2.heap.size + 1) By w2.heap.size (w2.heap.size + 1 + 1) q := ⟨by omega, by omega, by omega, by omega, by omega, by omega, by omega, by omega, by omega, by omega, by omega⟩
  have hst : OrdSt (w2.heap.size + 3) l.length Bl (w2.heap.size + 1) By w2.heap.size (w2.heap.size + 1 + 1) q L la lc (fun j => tabN l j j) (fun k => k = Bl ∨ (By ≤ k ∧ k < w2.heap.size + 3)) wF (.slice none 0 0) [] :=
    { mlt := fun k hk => by rw [hsF]; omega
      bl := keep HCl.out hbF
      ml := .inl rfl
      bo := cF1
      mo := .inr ⟨by omega, by omega⟩
      by_ := keep HCy.out hbF
      my := .inr ⟨by omega, by omega⟩
      bn := cF0
      mn := .inr ⟨by omega, by omega⟩
      bm := cF2
      mm := .inr ⟨by omega, by omega⟩
      tab := fun k hk => by
        obtain ⟨a, cap, hc, hi, hb⟩ := HTb.out k hk
        refine ⟨a, cap, keep hc hbF, hi.below hbF, fun j hj => ?_⟩
        obtain ⟨b, off, e, hcj⟩ := hi j hj
        have h1 : q < b := hb b off e
        have h2 : b < w2.heap.size := block_lt_of_cell hcj
        exact ⟨b, off, e, .inr ⟨by omega, by omega⟩, by omega, by omega⟩
      mq := .inr ⟨by omega, by omega⟩
      row := owns_nil _ _ _ _
      mr := fun g hg => by cases hg
      lw := by omega }
  have hj : J [] (fun k => k = Bl ∨ (By ≤ k ∧ k < w2.heap.size + 3)) wF := HJ.out [] _ _ _ none H0.out (grown_of_below (by rw [hy]; exact hBW)) (fun r e => by cases e) _ (fun k hk => hk.imp id (fun h => by omega))
  refine (HMore.out _ _ _ _ _ _ hL l.length (m - 1) [] _ wF _ [] (by simp) (by simp) hj hst (fun y hy => by cases hy)).mono ?_
  rintro e w9 ⟨rfl, xs, M9, v9, hxs, hj9, _⟩
  have HX := Lib.hid hxs; have HJ9 := Lib.hid hj9
  clear hj hst hL hBW hbF hsF cF0 cF1 cF2 hxs hj9
  gi_wp2_with fail
  go_end0
  exact ⟨⟨_, rfl⟩, xs, M9, HX.out, by simpa using HJ9.out⟩
theorem orders_any (a : Option Addr) (n c : Nat) (w : World) :
    Calls Try.prog 57 #[.slice a n c] w fun e w' => e = .returned (.func (.func 91) #[] #[.pointer (some ⟨w.heap.size, 0, none⟩)]) ∧ w' = w.alloc (.cells #[.slice a n c] 22) := by
  go_enter Try.func57, Try.ntmps57
  go_wp2_with fail
  go_ret
  exact ⟨rfl, rfl⟩
end Go.Proofs.Ytccpjfppkahbmaa
