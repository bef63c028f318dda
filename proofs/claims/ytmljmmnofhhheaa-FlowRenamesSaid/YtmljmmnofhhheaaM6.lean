/- The way to reach nodes, reckoned; the chapter's examples. -/
import Derived.Test.YtmljmmnofhhheaaWU
namespace Go.Proofs.Ytmljmmnofhhheaa

def visS (g : Gr) (but : Int) : Nat → Nat → NSet → NSet
  | 0, _, S => S
  | f + 1, v, S => if (v : Int) = but then S else if S v then S else (succ g v).foldl (fun T x => visS g but f x T) (mark S v)
theorem visS_dfs {g : Gr} (ok : OkG g) (but : Int) (f : Nat) : ∀ (v : Nat) (S : NSet), cnt S < f → v < g.length → Dfs g but v S (visS g but f v S) := by
  have h10 := ok.ten
  induction f with
  | zero => intro v S h; omega
  | succ f ih =>
    intro v S hc hv
    unfold visS
    by_cases hb : (v : Int) = but
    · rw [if_pos hb]; exact Dfs.but hb
    · rw [if_neg hb]
      cases hs : S v
      · rw [if_neg (by simp)]
        have hm := cnt_mark (by omega) hs
        have hL : ∀ k, k ≤ (succ g v).length → DfsL g but v k (mark S v) (((succ g v).take k).foldl (fun T x => visS g but f x T) (mark S v)) := by
          intro k
          induction k with
          | zero => intro _; exact DfsL.zero
          | succ k ihk =>
            intro hk
            have h1 := ihk (by omega)
            have e : (succ g v).take (k + 1) = (succ g v).take k ++ [(succ g v).getD k 0] := by
              rw [List.take_succ_eq_append_getElem (by omega)]
              simp [List.getD_eq_getElem?_getD, List.getElem?_eq_getElem (show k < (succ g v).length by omega)]
            rw [e, List.foldl_append]
            refine h1.next hb (by omega) (ih _ _ ?_ (ok.fits _ _ (getD_mem (by omega))))
            have := cnt_le h1.sub
            omega
        have h2 := hL _ (Nat.le_refl _)
        rw [List.take_length] at h2
        exact h2.fin hb
      · rw [if_pos rfl]; exact Dfs.seen hs
/-- The nodes that are reached, reckoned. -/
def rsC (g : Gr) (but : Int) (s : Nat) : NSet := visS g but 11 s (fun _ => false)
theorem rs_eq {g : Gr} (ok : OkG g) {but : Int} {s : Nat} (hs : s < g.length) : rs g but s = rsC g but s :=
  (Dfs.all (visS_dfs ok but 11 s _ (by have := cnt_ten (fun _ => false); omega) hs)).symm
def domC (g : Gr) (a b : Nat) : Bool := decide (a = b) || !(rsC g (a : Nat) 0 b)
theorem domB_eq {g : Gr} (ok : OkG g) : domB g = domC g := by
  funext a b
  unfold domB domC
  rw [rs_eq ok ok.pos]
def edgesC (g : Gr) (good : Nat → Nat → Bool) : Pairs := edgesUpto g good (setL (rsC g (-1) 0)) (setL (rsC g (-1) 0)).length
theorem edgesL_eq {g : Gr} (ok : OkG g) {good : Nat → Nat → Bool} : edgesL g good = edgesC g good := by
  unfold edgesL edgesC
  rw [rs_eq ok ok.pos]
def backsC (g : Gr) : Pairs := edgesC g fun a b => domC g b a
theorem backsL_eq {g : Gr} (ok : OkG g) : backsL g = backsC g := by
  unfold backsL backsC
  rw [edgesL_eq ok]
  congr 1
  funext a b
  unfold goodBack
  rw [domB_eq ok]
def loopC (g : Gr) (head : Nat) : NSet := fun v => decide (v < g.length) && (backsC g).any fun e => decide (e.2 = head) && (decide (v = head) || (decide (v ≠ head) && rsC g (-1) 0 v && rsC g (head : Nat) v e.1))
theorem loopN_eq {g : Gr} (ok : OkG g) {head : Nat} (hh : head < g.length) : loopN g head = loopC g head := by
  funext v
  unfold loopN loopC
  rw [Bool.eq_iff_iff, loopS_iff, Bool.and_eq_true, decide_eq_true_iff, List.any_eq_true, backsL_eq ok]
  constructor
  · rintro ⟨e, he, h1, h2⟩
    have hv : v < g.length := by
      rcases h2 with rfl | ⟨_, h3, _⟩
      · exact hh
      · exact (rs_iff.1 h3).lt ok.fits ok.pos
    refine ⟨hv, e, he, ?_⟩
    rw [Bool.and_eq_true, decide_eq_true_iff, Bool.or_eq_true, Bool.and_eq_true, Bool.and_eq_true, decide_eq_true_iff, decide_eq_true_iff, ← rs_eq ok ok.pos, ← rs_eq ok hv]
    refine ⟨h1, ?_⟩
    rcases h2 with h2 | ⟨h2, h3, h4⟩
    · exact .inl h2
    · exact .inr ⟨⟨h2, h3⟩, rs_iff.2 h4⟩
  · rintro ⟨hv, e, he, h⟩
    rw [Bool.and_eq_true, decide_eq_true_iff, Bool.or_eq_true, Bool.and_eq_true, Bool.and_eq_true, decide_eq_true_iff, decide_eq_true_iff, ← rs_eq ok ok.pos, ← rs_eq ok hv] at h
    refine ⟨e, he, h.1, ?_⟩
    rcases h.2 with h2 | ⟨⟨h2, h3⟩, h4⟩
    · exact .inl h2
    · exact .inr ⟨h2, h3, rs_iff.1 h4⟩

def g1 : List (List Int) := [[1], [2, 3], [1], []]
def g2 : List (List Int) := [[1, 2], [2], []]
def g3 : List (List Int) := [[1, 2], [2], [1]]
theorem v1 : validE g1 = 0 := by decide
theorem v2 : validE g2 = 0 := by decide
theorem v3 : validE g3 = 0 := by decide
theorem known_order : orderR g1 = [0, 1, 3, 2] := by decide
theorem known_loop : loopR g1 1 = [1, 2] := by
  unfold loopR
  rw [if_pos (by decide), loopN_eq (valid_ok v1) (by decide)]
  decide
theorem known_loopE : loopE g1 1 = 0 := by
  unfold loopE
  rw [known_loop, if_pos (by decide)]
  rfl
theorem known_crit : critR g2 = [(0, 2)] := by
  unfold critR critL
  rw [if_pos v2, edgesL_eq (valid_ok v2)]
  decide
theorem known_red : redR g3 = false := by
  have ok := valid_ok v3
  unfold redR redB
  rw [if_pos v3, @decide_eq_false_iff_not _ (Classical.propDecidable _), Classical.not_not]
  refine ⟨fun j => decide (j = 1) || decide (j = 2), fun j hj => ?_, fun v hv => ?_, 1, by decide⟩
  · rw [rs_eq ok ok.pos]
    have : j = 1 ∨ j = 2 := by simpa using hj
    rcases this with rfl | rfl <;> decide
  · have : v = 1 ∨ v = 2 := by simpa using hv
    rcases this with rfl | rfl
    · refine ⟨2, by decide, ?_⟩
      unfold fwdR
      rw [rs_eq ok ok.pos, domB_eq ok]
      decide
    · refine ⟨1, by decide, ?_⟩
      unfold fwdR
      rw [rs_eq ok ok.pos, domB_eq ok]
      decide
end Go.Proofs.Ytmljmmnofhhheaa
