/- slices.SortFunc of lists of numbers; Clean of the program. -/
import Derived.Test.YtahaoddilejpnaaCS
import Derived.Test.YtahaoddilejpnaaSF
import Derived.Lib.OwnBridge
namespace Go.Proofs.Ytahaoddilejpnaa
open Go.RowKit Go.Lib Go.Sort Go.Shelf

theorem heap_sortW {enc : Nat → Value} {w : World} {g n : Nat} {os : Array Obj} {d : Array Nat} {b : Nat} (hb : b ≠ g) (hlt : b < w.heap.size) : (sortWorld enc w g 0 n d os).heap[b]? = w.heap[b]? := by
  unfold sortWorld grow
  show ((putRow enc (Sort.ahead w n) g 0 d).heap ++ os)[b]? = _
  rw [Array.getElem?_append_left (by simp [putRow, mapBlock, Sort.ahead]; exact hlt)]
  simp [putRow, mapBlock, Sort.ahead, Array.getElem?_modify, show g ≠ b from fun e => hb e.symm]
theorem frz_sortW {enc : Nat → Value} {w : World} {g n : Nat} {os : Array Obj} {d : Array Nat} : FrzKeep w (sortWorld enc w g 0 n d os) := fun b j hb hf => by
  have h : (putRow enc (Sort.ahead w n) g 0 d).frozen? ⟨b, j, none⟩ = false := by simpa using hf
  rw [World.frozen?_of_block (w := putRow enc (Sort.ahead w n) g 0 d)]
  · exact h
  · show ((putRow enc (Sort.ahead w n) g 0 d).heap ++ os)[b]? = _
    exact Array.getElem?_append_left (by simp [putRow, mapBlock, Sort.ahead]; exact hb)
theorem lt_of_not {a b c : List Int} (h1 : ¬ ltL a b) (h2 : ¬ ltL b c) : ¬ ltL a c := fun h3 => by
  by_cases e : a = b
  · subst e; exact h2 h3
  · exact h2 (ltL_trans (ltL_tri h1 e) h3)
theorem swo_lex (L : List (List Int)) : SWO (ltOf fun i j : Nat => lexC (L.getD i []) (L.getD j [])) where
  irrefl x := by
    show decide (lexC (L.getD x []) (L.getD x []) < 0) = false
    rw [lexC_self]; rfl
  trans x y z h1 h2 := decide_eq_true (lexC_trans (of_decide_eq_true h1) (of_decide_eq_true h2))
  ntrans x y z h1 h2 := decide_eq_false (lt_of_not (of_decide_eq_false h1) (of_decide_eq_false h2))
theorem perm_map {L : List (List Int)} {d' : Array Nat} (hp : PermIn 0 L.length (List.range L.length).toArray d') : d'.toList.Perm (List.range L.length) ∧ d'.size = L.length := by
  obtain ⟨h1, _, h3⟩ := hp
  have hs : d'.size = L.length := by rw [h1]; simp
  have e1 : d'.extract 0 L.length = d' := by rw [← hs]; simp
  rw [e1] at h3
  refine ⟨?_, hs⟩
  simpa using h3
theorem range_map (L : List (List Int)) : (List.range L.length).map (fun i => L.getD i []) = L := by
  apply List.ext_getElem
  · simp
  · intro i h1 h2
    simp [List.getD_eq_getElem?_getD, h2]
set_option maxRecDepth 1000000 in
set_option maxHeartbeats 1000000 in
theorem sortF_any (base : Nat) (v : Value) (L : List (List Int)) (vals : List Value) (w : World) (ho : w.ownsRow base 40 1 v L.length vals) (har : RowsAre w base v.ownBlock L vals) (hs : Short L) :
    Calls Try.prog 53 #[v, .func (.func 54) #[] #[]] w fun e w' => e = .returned (.tuple #[]) ∧ ∃ L' vals', w'.ownsRow base 40 1 v L'.length vals' ∧ RowsAre w' base v.ownBlock L' vals' ∧ L'.Perm L ∧ L'.Pairwise (fun a b => ¬ ltL b a) ∧ (∀ x ∈ vals', x ∈ vals) ∧ Below base w w' ∧ FrzKeep w w' := by
  by_cases h0 : L.length = 0
  · have hL := List.length_eq_zero_iff.1 h0
    subst hL
    obtain ⟨a, cap, rfl⟩ := owns_shape ho
    refine (Try.slices_SortFunc_none a cap _ w).mono fun e w' ⟨h1, h2⟩ => ?_
    subst h2
    exact ⟨h1, [], vals, ho, har, List.Perm.refl _, by simp, fun _ h => h, ⟨rfl, rfl, rfl, Nat.le_refl _, fun _ _ => rfl⟩, FrzKeep.refl _⟩
  obtain ⟨g, cap, rfl, hlc, hcm, hbg, hgs, hcell, hfree⟩ := owns_cells ho (by omega)
  have hex : ∀ k, ∃ ac : Option Addr × Nat, IntsIn w ac.1 (L.getD k []) ∧ (∀ b off, ac.1 = some ⟨b, off, none⟩ → k < L.length → base ≤ b ∧ b < w.heap.size ∧ b ≠ g) ∧ (k < L.length → vals[k]? = some (.slice ac.1 (L.getD k []).length ac.2)) := fun k => by
    by_cases hk : k < L.length
    · obtain ⟨a, c, h1, _, _, h3, h4⟩ := har k hk
      exact ⟨(a, c), h3, fun b off e _ => ⟨(h4 b off e).1, (h4 b off e).2.1, fun e2 => (h4 b off e).2.2 (by rw [e2]; rfl)⟩, fun _ => h1⟩
    · have e : L.getD k [] = [] := by rw [List.getD_eq_getElem?_getD, List.getElem?_eq_none (by omega)]; rfl
      exact ⟨(none, 0), by rw [e]; exact fun _ h => absurd h (Nat.not_lt_zero _), fun b off e => (by cases e), fun h => absurd h hk⟩
  obtain ⟨A, hA⟩ := Classical.axiomOfChoice hex
  let enc : Nat → Value := fun k => .slice (A k).1 (L.getD k []).length (A k).2
  have hvals : vals = (List.range L.length).map enc := by
    apply List.ext_getElem?
    intro i
    have hvl : vals.length = L.length := by have := ho.1; omega
    by_cases hi : i < L.length
    · rw [(hA i).2.2 hi, List.getElem?_map, List.getElem?_range hi]; rfl
    · rw [List.getElem?_eq_none (by omega), List.getElem?_eq_none (by simp; omega)]
  rw [hvals] at ho
  obtain ⟨g2, cap2, e2, _, _, _, _, _, hH⟩ := holds_of_ownsRow ho (fun e => by cases e)
  cases e2
  have hll : L.length ≤ 100000 := by have := hs.len; omega
  have hcmp : CmpReads Try.prog 54 #[] enc (fun i j : Nat => lexC (L.getD i []) (L.getD j [])) g 0 (List.range L.length).toArray.size w := fun m os dk _ x y => by
    have hin : ∀ z, IntsIn (sortWorld enc w g 0 m dk os) (A z).1 (L.getD z []) := fun z k hk => by
      obtain ⟨b, off, e, hc⟩ := (hA z).1 k hk
      have hz : z < L.length := by
        rcases Nat.lt_or_ge z L.length with h | h
        · exact h
        · rw [List.getD_eq_getElem?_getD, List.getElem?_eq_none h] at hk; exact absurd hk (Nat.not_lt_zero _)
      obtain ⟨_, h2, h3⟩ := (hA z).2.1 b off e hz
      exact ⟨b, off, e, cellOf hc (heap_sortW h3 h2)⟩
    have hlx : ∀ z, (L.getD z []).length ≤ 1000000 := fun z => by
      rcases Nat.lt_or_ge z L.length with h | h
      · have := hs.row z h; omega
      · rw [List.getD_eq_getElem?_getD, List.getElem?_eq_none h]; exact Nat.zero_le _
    refine (cmpL_any _ _ (A x).1 (A y).1 (A x).2 (A y).2 (sortWorld enc w g 0 m dk os) (hin x) (hin y) (hlx x)).mono fun e w' ⟨h1, h2⟩ => ⟨h1, 0, ?_⟩
    rw [h2]; rfl
  have hcon := Try.slices_SortFunc enc (fun _ => rfl) (fun i j : Nat => lexC (L.getD i []) (L.getD j [])) (swo_lex L) 54 #[] g 0 cap (List.range L.length).toArray w (fun _ _ => rfl) hcmp.lays hH hgs (by simp; omega)
  have es : (List.range L.length).toArray.size = L.length := by simp
  rw [es] at hcon
  refine hcon.mono ?_
  rintro e w' ⟨rfl, d', n, os, hp, hso, rfl⟩
  obtain ⟨hp1, hp2⟩ := perm_map hp
  have hb0 : Below base w w := ⟨rfl, rfl, rfl, Nat.le_refl _, fun _ _ => rfl⟩
  have hb1 : Below base w (putRow enc (Sort.ahead w n) g 0 d') := below_putRow hb0 hbg
  have hsz : (putRow enc (Sort.ahead w n) g 0 d').heap.size = w.heap.size := by simp [putRow, mapBlock, Sort.ahead]
  have hb2 : Below base w (sortWorld enc w g 0 n d' os) := hb1.trans ⟨rfl, rfl, rfl, by show _ ≤ ((putRow enc (Sort.ahead w n) g 0 d').heap ++ os).size; rw [Array.size_append]; omega, fun k hk => by
    show ((putRow enc (Sort.ahead w n) g 0 d').heap ++ os)[k]? = _
    exact Array.getElem?_append_left (by omega)⟩
  have how : (sortWorld enc w g 0 n d' os).ownsRow base 40 1 (.slice (some ⟨g, 0, none⟩) L.length cap) L.length (d'.toList.map enc) := by
    have h1 := ownsRow_putRow (enc := enc) (q := n) (k := L.length) (ys := d'.toList) ho (by simp [hp2]) (Nat.le_refl _)
    rw [List.take_of_length_le (by simp [hp2])] at h1
    exact owns_of_block h1 fun k hk _ => by
      show ((putRow enc (Sort.ahead w n) g 0 d').heap ++ os)[k]? = _
      exact Array.getElem?_append_left hk
  have hl' : (d'.toList.map fun i => L.getD i []).length = L.length := by simp [hp2]
  refine ⟨rfl, d'.toList.map (fun i => L.getD i []), d'.toList.map enc, by rw [hl']; exact how, fun k hk => ?_, ?_, ?_, fun x hx => ?_, hb2, frz_sortW⟩
  · rw [List.length_map] at hk
    have hm : d'.toList[k] < L.length := List.mem_range.1 (hp1.mem_iff.1 (List.getElem_mem hk))
    have e1 : (d'.toList.map fun i => L.getD i []).getD k [] = L.getD d'.toList[k] [] := by
      rw [List.getD_eq_getElem?_getD, List.getElem?_map, List.getElem?_eq_getElem hk]; rfl
    obtain ⟨a, c, h1, h2, h00, h3, h4⟩ := har _ hm
    rw [(hA _).2.2 hm] at h1
    cases h1
    have hin9 : IntsIn (sortWorld enc w g 0 n d' os) (A d'.toList[k]).1 (L.getD d'.toList[k] []) := fun j hj => by
      obtain ⟨b, off, e, hc⟩ := h3 j hj
      exact ⟨b, off, e, cellOf hc (heap_sortW (fun e2 => (h4 b off e).2.2 (by rw [e2]; rfl)) (h4 b off e).2.1)⟩
    refine ⟨_, _, by rw [e1, List.getElem?_map, List.getElem?_eq_getElem hk]; rfl, by rw [e1]; exact h2, h00, by rw [e1]; exact hin9, fun b off e => ⟨(h4 b off e).1, Nat.lt_of_lt_of_le (h4 b off e).2.1 hb2.size, (h4 b off e).2.2⟩⟩
  · have := hp1.map (fun i => L.getD i [])
    rwa [range_map] at this
  · rw [List.pairwise_map, List.pairwise_iff_getElem]
    intro i j hi hj hij
    have h := hso i j (Nat.zero_le _) hij (by rw [Array.length_toList] at hj; omega)
    unfold ltOf at h
    rw [getElem!_pos d' j (by simpa using hj), getElem!_pos d' i (by simpa using hi)] at h
    unfold ltL
    simpa using h
  · rw [hvals]
    obtain ⟨i, hi, rfl⟩ := List.mem_map.1 hx
    exact List.mem_map.2 ⟨i, hp1.mem_iff.1 hi, rfl⟩
end Go.Proofs.Ytahaoddilejpnaa
