/- The walks of CheckColors, of the program and of the document. -/
import Derived.Test.YtgpacajlfclobaaQ1
import Derived.Test.YtgpacajlfclobaaR
import Derived.Maps.OwnSet
namespace Go.Proofs.Ytgpacajlfclobaa
open Go.RowKit Go.Maps

def addN (s : List Nat) (c : Nat) : List Nat := if s.any (· == c) then s else s ++ [c]
def seenN (cs : List Int) (k : Nat) : List Nat := (cs.take k).foldl (fun s c => addN s c.toNat) []
theorem seenN_next {cs : List Int} {k : Nat} (h : k < cs.length) : seenN cs (k + 1) = addN (seenN cs k) (cs.getD k 0).toNat := by
  unfold seenN
  rw [List.take_succ_eq_append_getElem h, List.foldl_append]
  simp [List.getD_eq_getElem?_getD, List.getElem?_eq_getElem h]
theorem addN_len (s : List Nat) (c : Nat) : (addN s c).length ≤ s.length + 1 := by
  unfold addN
  split
  · omega
  · simp
theorem seenN_len (cs : List Int) : ∀ k, k ≤ cs.length → (seenN cs k).length ≤ k
  | 0, _ => Nat.le_refl _
  | k + 1, h => by
    rw [seenN_next (by omega)]
    have := addN_len (seenN cs k) (cs.getD k 0).toNat
    have := seenN_len cs k (by omega)
    omega
/-- What a map that serves as a set reads as. -/
structure MS (D : DataW Unit) (s : List Nat) : Prop where
  tidy : Tidy D
  has : ∀ x : Int, Maps.has D (.int .i64 x) = true ↔ ∃ k ∈ s, x = ((k : Nat) : Int)
  size : Maps.size D = s.length
theorem MS.empty : MS (.map []) [] := by
  refine ⟨tidy_empty, fun x => ?_, rfl⟩
  constructor
  · intro h; cases h
  · rintro ⟨k, h, _⟩; cases h
theorem MS.put {D : DataW Unit} {s : List Nat} (h : MS D s) (k : Nat) (d : DataW Unit) : MS (D.put (.int .i64 (k : Int)) d) (addN s k) := by
  have hany : s.any (· == k) = Maps.has D (.int .i64 (k : Int)) := by
    rw [Bool.eq_iff_iff, h.has, List.any_eq_true]
    constructor
    · rintro ⟨x, hx, e⟩
      exact ⟨x, hx, by have := beq_iff_eq.1 e; omega⟩
    · rintro ⟨x, hx, e⟩
      exact ⟨x, hx, by rw [beq_iff_eq]; omega⟩
  refine ⟨h.tidy.put (ikl _) _, fun x => ?_, ?_⟩
  · by_cases c : x = (k : Int)
    · subst c
      rw [has_put_same h.tidy.isMap (ikl _)]
      simp only [true_iff]
      refine ⟨k, ?_, rfl⟩
      unfold addN
      split
      · rename_i h1
        obtain ⟨y, hy, e⟩ := List.any_eq_true.1 h1
        rw [beq_iff_eq] at e
        exact e ▸ hy
      · simp
    · rw [has_put_other (lit_ne c), h.has]
      unfold addN
      split
      · rfl
      · constructor
        · rintro ⟨j, hj, e⟩; exact ⟨j, List.mem_append_left _ hj, e⟩
        · rintro ⟨j, hj, e⟩
          rcases List.mem_append.1 hj with h1 | h1
          · exact ⟨j, h1, e⟩
          · rw [List.mem_singleton] at h1
            exact absurd (by rw [e, h1]) c
  · rw [size_put h.tidy, ← hany]
    unfold addN
    split
    · exact h.size
    · rw [h.size]; simp
def checkE (n : Int) (es : List (Int × Int)) (cs : List Int) : Int := if edgedB n es && decide ((cs.length : Int) = n) && !(cs.any cBad) then (if es.any (clashB cs) then 8 else 0) else 1
def checkN (n : Int) (es : List (Int × Int)) (cs : List Int) : Nat := if checkE n es cs = 0 then (seenN cs cs.length).length else 0
theorem cBad_no {c : Int} (h : cBad c = false) : 0 ≤ c ∧ c ≤ 7 := by
  unfold cBad at h
  rw [Bool.or_eq_false_iff, decide_eq_false_iff_not, decide_eq_false_iff_not] at h
  omega

set_option maxRecDepth 100000 in
set_option maxHeartbeats 1000000 in
theorem check_any (n : Int) (es : List (Int × Int)) (cs : List Int) (a ca : Option Addr) (acap ccap : Nat) (w : World) (hin : MovesIn w a es) (hcs : IntsIn w ca cs) (hl : es.length ≤ 1000) (hcl : cs.length ≤ 1000) :
    Calls Try.prog 16 #[.int .i64 n, .slice a es.length acap, .slice ca cs.length ccap] w fun e w' => e = .returned (.tuple #[.int .i64 (checkN n es cs : Nat), .int .i64 (checkE n es cs)]) ∧ Below w.heap.size w w' := by
  have hb0 : Below w.heap.size w (w.alloc (.cells #[.slice ca cs.length ccap] 35)) := (Below.refl _ _).alloc (Nat.le_refl _) _
  have hq0 : (w.alloc (.cells #[.slice ca cs.length ccap] 35)).cell? ⟨w.heap.size, 0, none⟩ = some (.slice ca cs.length ccap) := by simp [go_sem]
  have hsz0 : w.heap.size ≤ (w.alloc (.cells #[.slice ca cs.length ccap] 35)).heap.size := by simp
  have HE := Lib.hid (edged_any n es a acap _ (hin.below hb0) hl)
  have HMk := Lib.hid (@run_makeMap Try.prog)
  generalize hw0 : w.alloc (.cells #[.slice ca cs.length ccap] 35) = w0 at *
  have HC1 : Hid (∀ w', Below w0.heap.size w0 w' → Calls Try.prog 31 #[.slice ca cs.length ccap, .func (.func 32) #[] #[]] w' fun e w'' => e = .returned (.bool (cs.any cBad)) ∧ Below w'.heap.size w' w'') := Lib.hid fun w' hb =>
    con_chk1 cBad cs ca ccap w' ((hcs.below hb0).below hb) hcl fun j w'' _ _ => check1_any _ w''
  have HQ := Lib.hid hq0; have HB0 := Lib.hid hb0
  have hqa : w.heap.size < w0.heap.size := block_lt_of_cell hq0
  cases he : edgedB n es
  · have e1 : checkE n es cs = 1 := by unfold checkE; rw [he]; simp
    have e2 : checkN n es cs = 0 := by unfold checkN; rw [e1]; rfl
    rw [e1, e2]; rw [he] at HE
    clear hb0 hq0 hin hcs he e1 e2 HC1
    go_enter Try.func16, Try.ntmps16
    go_wp2_with fail
    refine HE.out.mono ?_; rintro e w1 ⟨rfl, hb1⟩
    go_wp2_with fail
    go_ret2
    exact ⟨rfl, HB0.out.trans (hb1.mono hsz0)⟩
  rw [he] at HE
  by_cases hln : (cs.length : Int) = n
  rotate_left
  · have e1 : checkE n es cs = 1 := by unfold checkE; rw [decide_eq_false hln]; simp
    have e2 : checkN n es cs = 0 := by unfold checkN; rw [e1]; rfl
    have hlb : ((cs.length : Int) == n) = false := by rw [beq_eq_false_iff_ne]; exact hln
    rw [e1, e2]
    clear hb0 hin hcs he e1 e2 HC1 hq0
    go_enter Try.func16, Try.ntmps16
    go_wp2_with fail
    refine HE.out.mono ?_; rintro e w1 ⟨rfl, hb1⟩
    have hq1 := keep HQ.out hb1
    go_wp2_with fail
    go_ret2
    exact ⟨rfl, HB0.out.trans (hb1.mono hsz0)⟩
  cases hcb : cs.any cBad
  rotate_left
  · have e1 : checkE n es cs = 1 := by unfold checkE; rw [hcb]; simp
    have e2 : checkN n es cs = 0 := by unfold checkN; rw [e1]; rfl
    rw [e1, e2]
    rw [hcb] at HC1
    subst hln
    clear hb0 hin hcs he e1 e2 hq0 hcb
    go_enter Try.func16, Try.ntmps16
    go_wp2_with fail
    refine HE.out.mono ?_; rintro e w1 ⟨rfl, hb1⟩
    have hq1 := keep HQ.out hb1
    have HB1 := Lib.hid hb1; clear hb1
    go_wp2_with fail
    refine (HC1.out _ HB1.out).mono ?_; rintro e w2 ⟨rfl, hb2⟩
    go_wp2_with fail
    go_ret2
    exact ⟨rfl, HB0.out.trans ((HB1.out.trans (hb2.mono HB1.out.size)).mono hsz0)⟩
  rw [hcb] at HC1
  subst hln
  obtain ⟨_, hn12, heok⟩ := edged_ok he
  have hck : checkE (cs.length : Int) es cs = if es.any (clashB cs) then 8 else 0 := by unfold checkE; rw [he, hcb]; simp
  have HC2 : Hid (∀ w', Below w0.heap.size w0 w' → Calls Try.prog 33 #[.slice a es.length acap, .func (.func 34) #[] #[.pointer (some ⟨w.heap.size, 0, none⟩)]] w' fun e w'' => e = .returned (.bool (es.any (clashB cs))) ∧ Below w'.heap.size w' w'') := Lib.hid fun w' hb =>
    con_chk2 w.heap.size (clashB cs) es a acap w' ((hin.below hb0).below hb) hl fun j w'' hj hb2 => by
      have hm : es.getD j (0, 0) ∈ es := by rw [List.getD_eq_getElem?_getD, List.getElem?_eq_getElem hj]; simp
      have := heok _ hm
      exact check2_any cs ca ccap _ _ _ w'' (keep (keep hq0 hb) hb2) (((hcs.below hb0).below hb).below hb2) this.1 this.2.1
  have HCs := Lib.hid (hcs.below hb0)
  have HOk : Hid (∀ k, k < cs.length → 0 ≤ cs.getD k 0 ∧ cs.getD k 0 ≤ 7) := Lib.hid fun k hk => by
    rw [List.any_eq_false] at hcb
    exact cBad_no (by simpa using hcb _ (show cs.getD k 0 ∈ cs by rw [List.getD_eq_getElem?_getD, List.getElem?_eq_getElem hk]; simp))
  have HNx : Hid (∀ k, k < cs.length → seenN cs (k + 1) = addN (seenN cs k) (cs.getD k 0).toNat) := Lib.hid fun k hk => seenN_next hk
  have hN : checkN (cs.length : Int) es cs = if es.any (clashB cs) then 0 else (seenN cs cs.length).length := by
    unfold checkN
    rw [hck]
    cases es.any (clashB cs) <;> rfl
  rw [hck, hN]
  clear hck hN hb0 hq0 hin hcs he hcb heok
  generalize es.any (clashB cs) = B at *
  cases B
  rotate_left
  · go_enter Try.func16, Try.ntmps16
    go_wp2_with fail
    refine HE.out.mono ?_; rintro e w1 ⟨rfl, hb1⟩
    have hq1 := keep HQ.out hb1
    have HB1 := Lib.hid hb1; clear hb1
    go_wp2_with fail
    refine (HC1.out _ HB1.out).mono ?_; rintro e w2 ⟨rfl, hb2⟩
    have HB2 := Lib.hid (HB1.out.trans (hb2.mono HB1.out.size)); clear hb2
    go_wp2_with fail
    refine (HC2.out _ HB2.out).mono ?_; rintro e w3 ⟨rfl, hb3⟩
    have HB3 := Lib.hid (HB2.out.trans (hb3.mono HB2.out.size)); clear hb3
    go_wp2_with fail
    go_ret2
    exact ⟨rfl, HB0.out.trans (HB3.out.mono hsz0)⟩
  · rw [if_neg (by simp), if_neg (by simp)]
    go_enter Try.func16, Try.ntmps16
    go_wp2_with fail
    refine HE.out.mono ?_; rintro e w1 ⟨rfl, hb1⟩
    have hq1 := keep HQ.out hb1
    have HB1 := Lib.hid hb1; clear hb1
    go_wp2_with fail
    refine (HC1.out _ HB1.out).mono ?_; rintro e w2 ⟨rfl, hb2⟩
    have HB2 := Lib.hid (HB1.out.trans (hb2.mono HB1.out.size)); clear hb2
    go_wp2_with fail
    refine (HC2.out _ HB2.out).mono ?_; rintro e w3 ⟨rfl, hb3⟩
    have HB3 := Lib.hid (HB2.out.trans (hb3.mono HB2.out.size)); clear hb3
    have hq3 := keep HQ.out HB3.out
    have HM0 : Hid ((w3.alloc (.map #[] 0)).ownsMap Try.prog 3 (plainElem Try.prog 4) w3.heap.size 0 (DataW.map [] : DataW Unit)) := Lib.hid (World.ownsMap_made w3 _ _ _)
    have HB4 : Hid (Below w0.heap.size w0 (w3.alloc (.map #[] 0))) := Lib.hid (HB3.out.alloc HB3.out.size _)
    have hmm := HMk.out
    have hq4 : (w3.alloc (.map #[] 0)).cell? ⟨w.heap.size, 0, none⟩ = some (.slice ca cs.length ccap) := keep HQ.out HB4.out
    have hbm : w0.heap.size ≤ w3.heap.size := HB3.out.size
    clear HQ hq3 hq1
    go_wp2_with fail
    generalize w3.alloc (.map #[] 0) = w4 at *
    generalize w3.heap.size = b at *
    clear hmm hw0 hq4
    go_loopw [31] (fun i wr => ∃ k : Nat, k ≤ cs.length ∧ i = .int .i64 k ∧ (∃ D : DataW Unit, wr.ownsMap Try.prog 3 (plainElem Try.prog 4) b k D ∧ MS D (seenN cs k)) ∧ Below w0.heap.size w0 wr) (fun i _ => cs.length - (intOf i).toNat)
    case atStart => exact ⟨0, Nat.zero_le _, rfl, ⟨_, HM0.out, MS.empty⟩, HB4.out⟩
    case round =>
      obtain ⟨k, hk, rfl, ⟨D, hown, hms⟩, hb⟩ := hrel
      by_cases hlt : k < cs.length
      · have hki : (k : Int) < (cs.length : Int) := by omega
        obtain ⟨bc, off, rfl, c1⟩ := HCs.out.below hb k hlt
        obtain ⟨h0, h7⟩ := HOk.out k hlt
        have HNk := Lib.hid (HNx.out k hlt)
        have HO := Lib.hid hown; have HS := Lib.hid hms; have HB := Lib.hid hb
        clear hown hms hb
        generalize cs.getD k 0 = c at *
        obtain ⟨c, rfl⟩ := Int.eq_ofNat_of_zero_le h0
        go_wp2_with (first | (at_mapUpdate; refine wpList_mapUpdate_in _ rfl _ _ _ 58 rfl 3 4 intLaw Try.underlying58 _ b k D rfl HO.out (by unfold maxLen; omega) _ _ _ rfl rfl (key_nat (by omega)) _ [] (plainElem_bool Try.underlying4 true) ?_; intro w5 hown5 hturn5; have HO5 := Lib.hid hown5; have HB5 := Lib.hid (turned_below HB.out hturn5 (Nat.le_refl _) hbm); clear hown5 hturn5))
        go_roundw
        case rel => exact ⟨k + 1, by omega, by go_num, ⟨_, HO5.out, by rw [HNk.out]; exact HS.out.put c _⟩, HB5.out⟩
        case measure => simp [intOf]; omega
      · obtain rfl : k = cs.length := by omega
        have hsz : Maps.size D = (seenN cs cs.length).length := hms.size
        have HO := Lib.hid hown; have HB := Lib.hid hb
        clear hown hms hb
        go_wp2_with (first | (at_len; refine wpList_len_own _ rfl _ 58 rfl 3 4 Try.underlying58 _ b _ D rfl HO.out ?_; rw [hsz]))
        go_ret2
        exact ⟨rfl, HB0.out.trans (HB.out.mono hsz0)⟩
end Go.Proofs.Ytgpacajlfclobaa
