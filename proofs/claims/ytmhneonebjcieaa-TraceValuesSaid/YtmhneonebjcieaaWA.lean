/- The walk of Decode of the program. -/
import Derived.Test.YtmhneonebjcieaaW9
namespace Go.Proofs.Ytmhneonebjcieaa
open Go.RowKit

def encPl (l : List Pl) : List Value := l.flatMap fun p => [.int .i64 p.fr, .int .i64 p.to, .int .i64 p.va, .int .i64 p.ki, .int .i64 p.nn]
theorem encPl_len : ∀ l : List Pl, (encPl l).length = l.length * 5
  | [] => rfl
  | p :: l => by
    have := encPl_len l
    show (_ :: _ :: _ :: _ :: _ :: encPl l).length = _
    simp only [List.length_cons, this]
    omega
theorem encPl_snoc (l : List Pl) (p : Pl) : encPl (l ++ [p]) = encPl l ++ [.int .i64 p.fr, .int .i64 p.to, .int .i64 p.va, .int .i64 p.ki, .int .i64 p.nn] := by simp [encPl]
theorem encPl_get : ∀ (l : List Pl) (k : Nat), k < l.length → (encPl l)[k * 5]? = some (.int .i64 (at' l k).fr) ∧ (encPl l)[k * 5 + 1]? = some (.int .i64 (at' l k).to) ∧ (encPl l)[k * 5 + 2]? = some (.int .i64 (at' l k).va) ∧ (encPl l)[k * 5 + 3]? = some (.int .i64 (at' l k).ki) ∧ (encPl l)[k * 5 + 4]? = some (.int .i64 (at' l k).nn)
  | p :: l, 0, _ => ⟨rfl, rfl, rfl, rfl, rfl⟩
  | p :: l, k + 1, h => by
    have ih := encPl_get l k (by simpa using h)
    have e : ∀ j, (encPl (p :: l))[(k + 1) * 5 + j]? = (encPl l)[k * 5 + j]? := fun j => by
      show (_ :: _ :: _ :: _ :: _ :: encPl l)[(k + 1) * 5 + j]? = _
      rw [show (k + 1) * 5 + j = k * 5 + j + 1 + 1 + 1 + 1 + 1 by omega]
      simp only [List.getElem?_cons_succ]
    have e0 := e 0
    simp only [Nat.add_zero] at e0
    rw [e0, e 1, e 2, e 3, e 4]
    exact ih
/-- A slice of these places. -/
def PlSl (w : World) (v : Value) (l : List Pl) : Prop := ∃ a cap, v = .slice a l.length cap ∧ l.length ≤ cap ∧ PlsIn w a l
theorem PlSl.below {w w' : World} {v : Value} {l : List Pl} (h : PlSl w v l) (hb : Below w.heap.size w w') : PlSl w' v l := by
  obtain ⟨a, cap, rfl, hc, hn⟩ := h
  exact ⟨a, cap, rfl, hc, hn.below hb⟩
theorem plSl_of_owns {w : World} {base : Nat} {e : TypeId} {v : Value} {l : List Pl} (h : w.ownsRow base e 5 v l.length (encPl l)) : PlSl w v l := by
  obtain ⟨_, h | ⟨g, cap, cur, rfl, hb, hg, hnc, hm, hcs, ht⟩⟩ := h
  · obtain ⟨rfl, h0⟩ := h
    have : l = [] := List.length_eq_zero_iff.1 h0
    subst this
    exact ⟨none, 0, rfl, Nat.le_refl _, PlsIn.nil _ _⟩
  · refine ⟨_, cap, rfl, hnc, fun k hk => ⟨g, 0, rfl, ?_⟩⟩
    obtain ⟨e0, e1, e2, e3, e4⟩ := encPl_get l k hk
    rw [← ht, List.getElem?_take, if_pos (by omega)] at e0 e1 e2 e3 e4
    rw [Nat.zero_add]
    exact ⟨by rw [cell_of_row w g _ _ _ _ hg]; simpa using e0, by rw [cell_of_row w g _ _ _ _ hg]; simpa using e1, by rw [cell_of_row w g _ _ _ _ hg]; simpa using e2, by rw [cell_of_row w g _ _ _ _ hg]; simpa using e3, by rw [cell_of_row w g _ _ _ _ hg]; simpa using e4⟩
theorem Try.infoPlace : (Try.prog.info? 38).map (fun i => (i.zero, i.size, i.bytes)) = some (some (.agg #[.int .i64 0, .int .i64 0, .int .i64 0, .int .i64 0, .int .i64 0]), 5, 40) := by kernel_rfl
theorem owns_of_block {w w' : World} {base : Nat} {e : TypeId} {s n : Nat} {v : Value} {xs : List Value} (h : w.ownsRow base e s v n xs) (hb : ∀ g, base ≤ g → g < w.heap.size → v.ownBlock = some g → w'.heap[g]? = w.heap[g]?) : w'.ownsRow base e s v n xs := by
  refine ⟨h.1, ?_⟩
  rcases h.2 with h1 | ⟨g, cap, cur, e, hg, hc, r⟩
  · exact .inl h1
  · exact .inr ⟨g, cap, cur, e, hg, (hb g hg (lt_of_block hc) (by rw [e]; rfl)).trans hc, r⟩
theorem TakeSt.below {p : Nat} {w w' : World} {s : TSt} (h : TakeSt p w s) (hb : Below (p + 2) w w') : TakeSt p w' s := by
  obtain ⟨a, cap, hx, hlc, hin, hbp⟩ := h.box
  refine ⟨⟨a, cap, (hb.block p (by omega)).trans hx, hlc, fun k hk => ?_, hbp⟩, (hb.block (p + 1) (by omega)).trans h.flag, h.byte, h.len⟩
  obtain ⟨b, off, rfl, hc⟩ := hin k hk
  have := hbp (fun e => by rw [e] at hk; exact absurd hk (Nat.not_lt_zero _)) b off rfl
  exact ⟨b, off, rfl, by rw [World.cell?_of_block (w := w) (hb.block b (by omega))]; exact hc⟩

/-- What has been read after k places. -/
def rdK (s : TSt) : Nat → List Pl × Int × TSt
  | 0 => ([], 0, s)
  | k + 1 => ((rdK s k).1 ++ [(readP (rdK s k).2.1 (rdK s k).2.2).1], (readP (rdK s k).2.1 (rdK s k).2.2).1.fr, (readP (rdK s k).2.1 (rdK s k).2.2).2)
theorem rdK_all (s : TSt) : ∀ n k, (rdK s (k + n)).1 = (rdK s k).1 ++ (readL n (rdK s k).2.1 (rdK s k).2.2).1 ∧ (rdK s (k + n)).2.2 = (readL n (rdK s k).2.1 (rdK s k).2.2).2
  | 0, k => by simp [readL]
  | n + 1, k => by
    obtain ⟨h1, h2⟩ := rdK_all s n (k + 1)
    rw [show k + (n + 1) = k + 1 + n by omega, h1, h2]
    refine ⟨?_, rfl⟩
    show ((rdK s k).1 ++ [(readP (rdK s k).2.1 (rdK s k).2.2).1]) ++ _ = (rdK s k).1 ++ (_ :: _)
    rw [List.append_assoc]; rfl
theorem rdK_len (s : TSt) : ∀ k, (rdK s k).1.length = k
  | 0 => rfl
  | k + 1 => by
    show ((rdK s k).1 ++ [_]).length = k + 1
    rw [List.length_append, rdK_len s k]; rfl
theorem rdK_from (s : TSt) : ∀ k, 0 ≤ (rdK s k).2.1 ∧ (rdK s k).2.1 ≤ (k : Int) * 34359738368
  | 0 => ⟨Int.le_refl _, by show (0 : Int) ≤ _; omega⟩
  | k + 1 => by
    have ih := rdK_from s k
    have := takeN_lt (rdK s k).2.2
    have e : (rdK s (k + 1)).2.1 = (rdK s k).2.1 + (takeN (rdK s k).2.2 : Int) := rfl
    rw [e]
    omega
/-- What Decode answers. -/
def DecPost (b : List Nat) (B : Nat) (v : Value) (e : Int) (w' : World) : Prop := match decR b with
  | some l => e = 0 ∧ ∃ b', B ≤ b' ∧ w'.ownsRow b' 38 5 v l.length (encPl l)
  | none => v = .slice none 0 0 ∧ e = 2
theorem decR_early {b : List Nat} (h : (takeS ⟨false, b⟩).wrong = true ∨ 64 < takeN ⟨false, b⟩) : decR b = none := by
  unfold decR
  simp only
  rw [if_pos]
  rcases h with h | h
  · rw [h]; rfl
  · rw [decide_eq_true h]; simp
theorem decR_late {b : List Nat} (h1 : (takeS ⟨false, b⟩).wrong = false) (h2 : ¬ 64 < takeN ⟨false, b⟩) :
    decR b = if (rdK (takeS ⟨false, b⟩) (takeN ⟨false, b⟩)).2.2.wrong || !(rdK (takeS ⟨false, b⟩) (takeN ⟨false, b⟩)).2.2.rest.isEmpty || decide (valE (rdK (takeS ⟨false, b⟩) (takeN ⟨false, b⟩)).1 ≠ 0) then none else some (rdK (takeS ⟨false, b⟩) (takeN ⟨false, b⟩)).1 := by
  have h := rdK_all (takeS ⟨false, b⟩) (takeN ⟨false, b⟩) 0
  rw [Nat.zero_add] at h
  rw [h.1, h.2]
  unfold decR
  simp only
  rw [if_neg (by rw [h1, decide_eq_false h2]; simp)]
  rfl
end Go.Proofs.Ytmhneonebjcieaa
