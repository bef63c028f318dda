/- The walk of try, the search of the program. -/
import Derived.Test.YtgpacajlfclobaaQ5
namespace Go.Proofs.Ytgpacajlfclobaa
open Go.RowKit

theorem MovesIn.saved {w w' : World} {q : Nat} {a : Option Addr} {l : List (Int × Int)} (h : MovesIn w a l) (hs : Save q w w') (hne : ∀ k, k < l.length → ∀ b off, a = some ⟨b, off, none⟩ → b ≠ q) : MovesIn w' a l := fun k hk => by
  obtain ⟨b, off, rfl, h1, h2⟩ := h k hk
  exact ⟨b, off, rfl, hs.cell (hne k hk b off rfl) h1, hs.cell (hne k hk b off rfl) h2⟩
/-- The variables that the search shares. -/
structure Env (w : World) (pn pk pf po pt pe q n k : Nat) (es : List (Int × Int)) (a : Option Addr) (cap : Nat) : Prop where
  cn : w.cell? ⟨pn, 0, none⟩ = some (.int .i64 (n : Nat))
  ck : w.cell? ⟨pk, 0, none⟩ = some (.int .i64 (k : Nat))
  cf : w.cell? ⟨pf, 0, none⟩ = some (.func (.func 37) #[] #[.pointer (some ⟨pe, 0, none⟩), .pointer (some ⟨po, 0, none⟩)])
  co : w.cell? ⟨po, 0, none⟩ = some (.slice (some ⟨q, 0, none⟩) n n)
  ct : w.cell? ⟨pt, 0, none⟩ = some (.func (.func 39) #[] #[.pointer (some ⟨pn, 0, none⟩), .pointer (some ⟨pk, 0, none⟩), .pointer (some ⟨pf, 0, none⟩), .pointer (some ⟨po, 0, none⟩), .pointer (some ⟨pt, 0, none⟩)])
  ce : w.cell? ⟨pe, 0, none⟩ = some (.slice a es.length cap)
  hin : MovesIn w a es
  ne : (pn ≠ q ∧ pk ≠ q ∧ pf ≠ q) ∧ po ≠ q ∧ pt ≠ q ∧ pe ≠ q
  na : ∀ k, k < es.length → ∀ b off, a = some ⟨b, off, none⟩ → b ≠ q
theorem Env.save {w w' : World} {pn pk pf po pt pe q n k : Nat} {es : List (Int × Int)} {a : Option Addr} {cap : Nat} (h : Env w pn pk pf po pt pe q n k es a cap) (hs : Save q w w') : Env w' pn pk pf po pt pe q n k es a cap :=
  ⟨hs.cell h.ne.1.1 h.cn, hs.cell h.ne.1.2.1 h.ck, hs.cell h.ne.1.2.2 h.cf, hs.cell h.ne.2.1 h.co, hs.cell h.ne.2.2.1 h.ct, hs.cell h.ne.2.2.2 h.ce, h.hin.saved hs h.na, h.ne, h.na⟩
/-- What try leaves. -/
def TryPost (E : List (Nat × Nat)) (k n q v : Nat) (g : Regs) (R : Bool) (w' : World) : Prop := ∃ g', NRow w' q n g' ∧ (R = true → GoodF E k g' n) ∧ (R = false → ∀ j, j < v → g' j = g j)

set_option maxRecDepth 100000 in
set_option maxHeartbeats 2000000 in
theorem try_any (pn pk pf po pt pe q n k : Nat) (es : List (Int × Int)) (a : Option Addr) (cap : Nat) (hl : es.length ≤ 1000) (he : edgedB (n : Nat) es = true) (hk8 : k ≤ 8) : ∀ (d v u : Nat) (g : Regs) (w : World), v + d = n → u ≤ 8 →
    Env w pn pk pf po pt pe q n k es a cap → NRow w q n g → GoodF (toN es) k g v →
    Calls Try.prog 39 #[.int .i64 (v : Nat), .int .i64 (u : Nat), .pointer (some ⟨pn, 0, none⟩), .pointer (some ⟨pk, 0, none⟩), .pointer (some ⟨pf, 0, none⟩), .pointer (some ⟨po, 0, none⟩), .pointer (some ⟨pt, 0, none⟩)] w fun e w' => e = .returned (.bool (canF (toN es) k d v u g)) ∧ TryPost (toN es) k n q v g (canF (toN es) k d v u g) w' ∧ Save q w w'
  | 0, v, u, g, w, hd, _, henv, hrow, hgood => by
    obtain rfl : v = n := by omega
    have cn := henv.cn
    have hvv : ((v : Int) == (v : Int)) = true := by simp
    have HP : Hid (TryPost (toN es) k v q v g true w) := Lib.hid ⟨g, hrow, fun _ => hgood, fun h => by cases h⟩
    have hR : canF (toN es) k 0 v u g = true := rfl
    rw [hR]
    clear henv hrow hgood hR hd
    go_enter Try.func39, Try.ntmps39
    go_wp2_with fail
    go_ret
    exact ⟨rfl, HP.out, Save.refl _ _⟩
  | d + 1, v, u, g, w, hd, hu8, henv, hrow, hgood => by
    have hn12 := (edged_ok he).2.1
    have hno : ∀ e ∈ toN es, e.1 ≠ e.2 := fun e hem => by
      obtain ⟨m, hm, rfl⟩ := List.mem_map.1 hem
      have := (edged_ok he).2.2 m hm
      show m.1.toNat ≠ m.2.toNat
      omega
    have HI := Lib.hid (try_any pn pk pf po pt pe q n k es a cap hl he hk8 d)
    have HFits : Hid (∀ w' g' c, Env w' pn pk pf po pt pe q n k es a cap → NRow w' q n g' → Calls Try.prog 37 #[.int .i64 (v : Nat), .int .i64 (c : Nat), .pointer (some ⟨pe, 0, none⟩), .pointer (some ⟨po, 0, none⟩)] w' fun e w'' => e = .returned (.bool (fitF (toN es) g' v c)) ∧ Below w'.heap.size w' w'') := Lib.hid fun w' g' c h1 h2 =>
      fits_any es a cap v c n q pe po g' w' h1.hin hl he h1.ce h1.co h2
    have HYes : Hid (∀ c, c < min (u + 1) k → tryB (toN es) k d v u g c = true → canF (toN es) k (d + 1) v u g = true) := Lib.hid fun c => canF_yes
    have HNo : Hid ((∀ c, c < min (u + 1) k → tryB (toN es) k d v u g c = false) → canF (toN es) k (d + 1) v u g = false) := Lib.hid canF_no
    have HTry : Hid (∀ c, tryB (toN es) k d v u g c = (fitF (toN es) g v c && canF (toN es) k d (v + 1) (max u (c + 1)) (upd g v c))) := Lib.hid fun _ => rfl
    have HNoE := Lib.hid hno; have HEnv := Lib.hid henv; have HRow := Lib.hid hrow; have HGood := Lib.hid hgood
    have cn := henv.cn; have ck := henv.ck
    have hvn : v < n := by omega
    have hvi : (v : Int) < (n : Int) := by omega
    have hvb : ((v : Int) == (n : Int)) = false := by rw [beq_eq_false_iff_ne]; omega
    have hve : ¬ (v : Int) = (n : Int) := by omega
    obtain ⟨m, hm1, hm2⟩ : ∃ m : Nat, min (u + 1) k = m ∧ min ((u : Int) + 1) (k : Int) = (m : Int) := ⟨min (u + 1) k, rfl, by omega⟩
    have hmk : m ≤ k := by omega
    have hm8 : m ≤ 8 := by omega
    rw [hm1] at HYes HNo
    clear hm1 hno henv hrow hgood he
    generalize toN es = E at *
    generalize canF E k (d + 1) v u g = R at *
    have hptq : pt ≠ q := HEnv.out.ne.2.2.1
    have hqpt : q ≠ pt := fun h => hptq h.symm
    go_enter Try.func39, Try.ntmps39
    go_wp2_with fail
    clear cn ck hm2
    go_loopw [18] (fun i wr => ∃ j : Nat, j ≤ m ∧ i = .int .i64 j ∧ (∀ c, c < j → tryB E k d v u g c = false) ∧ (∃ g', NRow wr q n g' ∧ ∀ x, x < v → g' x = g x) ∧ Save q w wr) (fun i _ => m - (intOf i).toNat)
    case atStart => exact ⟨0, Nat.zero_le _, rfl, fun c hc => absurd hc (Nat.not_lt_zero _), ⟨g, HRow.out, fun _ _ => rfl⟩, Save.refl _ _⟩
    case round =>
      obtain ⟨j, hj, rfl, hnone, ⟨g', hrow', hag⟩, hsv⟩ := hrel
      have HNone := Lib.hid hnone; have HRow' := Lib.hid hrow'; have HAg := Lib.hid hag; have HSv := Lib.hid hsv
      clear hnone hrow' hag hsv
      by_cases hjm : j < m
      · have hji : (j : Int) < (m : Int) := by omega
        have HE1 := Lib.hid (HEnv.out.save HSv.out)
        have cf := HE1.out.cf
        have hfc : fitF E g' v j = fitF E g v j := fitF_congr HAg.out
        have HF1 := Lib.hid (HFits.out wr g' j HE1.out HRow'.out)
        rw [hfc] at HF1
        have HTj := Lib.hid (HTry.out j)
        have HYj := Lib.hid (HYes.out j hjm)
        clear hfc
        have HNext : Hid (tryB E k d v u g j = false → ∀ c, c < j + 1 → tryB E k d v u g c = false) := Lib.hid fun h c hc => by
          by_cases e : c = j
          · subst e; exact h
          · exact HNone.out c (by omega)
        cases hf : fitF E g v j
        · rw [hf] at HF1 HTj
          have HN1 := Lib.hid (HNext.out HTj.out)
          clear hf
          go_wp2_with (first | (go_at_call 37; refine HF1.out.mono ?_; rintro e w3 ⟨rfl, hb3⟩))
          go_roundw
          case rel => exact ⟨j + 1, by omega, by go_num, HN1.out, ⟨g', HRow'.out.below hb3, HAg.out⟩, HSv.out.trans (Save.of_below hb3)⟩
          case measure => simp [intOf]; omega
        · rw [hf] at HF1 HTj
          have HFt := Lib.hid hf
          clear hf
          obtain ⟨m2, hm21, hm22⟩ : ∃ m2 : Nat, max u (j + 1) = m2 ∧ max (u : Int) ((j : Int) + 1) = (m2 : Int) := ⟨max u (j + 1), rfl, by omega⟩
          have hm28 : m2 ≤ 8 := by omega
          have e1 : (((v + 1 : Nat) : Nat) : Int) = (v : Int) + 1 := by omega
          rw [hm21] at HTj
          have hcc : canF E k d (v + 1) m2 (upd g' v j) = canF E k d (v + 1) m2 (upd g v j) := canF_congr d _ _ (upd_congr HAg.out)
          have HI1 : Hid (∀ w', Env w' pn pk pf po pt pe q n k es a cap → NRow w' q n (upd g' v j) → Calls Try.prog 39 #[.int .i64 ((v : Int) + 1), .int .i64 (m2 : Nat), .pointer (some ⟨pn, 0, none⟩), .pointer (some ⟨pk, 0, none⟩), .pointer (some ⟨pf, 0, none⟩), .pointer (some ⟨po, 0, none⟩), .pointer (some ⟨pt, 0, none⟩)] w' fun e w'' => e = .returned (.bool (canF E k d (v + 1) m2 (upd g v j))) ∧ TryPost E k n q (v + 1) (upd g' v j) (canF E k d (v + 1) m2 (upd g v j)) w'' ∧ Save q w' w'') := Lib.hid fun w' h1 h2 => by
            have := HI.out (v + 1) m2 (upd g' v j) w' (by omega) hm28 h1 h2 ((HGood.out.congr HAg.out).next (by omega) HNoE.out (by rw [fitF_congr HAg.out]; exact HFt.out))
            rw [hcc, e1] at this
            exact this
          clear hm21 hcc e1
          cases hc : canF E k d (v + 1) m2 (upd g v j)
          · rw [hc] at HI1 HTj
            have HN1 := Lib.hid (HNext.out HTj.out)
            clear hc
            go_wp2_with (first | (go_at_call 37; refine HF1.out.mono ?_; rintro e w3 ⟨rfl, hb3⟩; have HSv3 := Lib.hid (HSv.out.trans (Save.of_below hb3)); have HRow3 := Lib.hid (HRow'.out.below hb3); have HE3 := Lib.hid (HEnv.out.save HSv3.out); have co3 := HE3.out.co; have f3 := HRow3.out.free v; have c3 := HRow3.out.cell hvn; have HSv4 := Lib.hid (HSv3.out.trans (Save.set q v w3 (.int .i64 (j : Nat)))); have HRow4 := Lib.hid (HRow3.out.set v j); have HE4 := Lib.hid (HEnv.out.save HSv4.out); have ct3 := HE3.out.ct; have ct4 := HE4.out.ct; clear hb3) | (go_at_call 39; refine (HI1.out _ HE4.out HRow4.out).mono ?_; rintro e w5 ⟨rfl, ⟨g2, hrow5, _, hag5⟩, hsv5⟩; have HRow5 := Lib.hid hrow5; have HAg5 := Lib.hid (hag5 rfl); have HSv5 := Lib.hid (HSv4.out.trans hsv5); clear hrow5 hag5 hsv5))
            go_roundw
            case rel => exact ⟨j + 1, by omega, by go_num, HN1.out, ⟨g2, HRow5.out, fun x hx => by rw [HAg5.out x (by omega), upd_ne (by omega)]; exact HAg.out x hx⟩, HSv5.out⟩
            case measure => simp [intOf]; omega
          · rw [hc] at HI1 HTj
            have hR := HYj.out HTj.out
            subst hR
            clear hc
            go_wp2_with (first | (go_at_call 37; refine HF1.out.mono ?_; rintro e w3 ⟨rfl, hb3⟩; have HSv3 := Lib.hid (HSv.out.trans (Save.of_below hb3)); have HRow3 := Lib.hid (HRow'.out.below hb3); have HE3 := Lib.hid (HEnv.out.save HSv3.out); have co3 := HE3.out.co; have f3 := HRow3.out.free v; have c3 := HRow3.out.cell hvn; have HSv4 := Lib.hid (HSv3.out.trans (Save.set q v w3 (.int .i64 (j : Nat)))); have HRow4 := Lib.hid (HRow3.out.set v j); have HE4 := Lib.hid (HEnv.out.save HSv4.out); have ct3 := HE3.out.ct; have ct4 := HE4.out.ct; clear hb3) | (go_at_call 39; refine (HI1.out _ HE4.out HRow4.out).mono ?_; rintro e w5 ⟨rfl, ⟨g2, hrow5, hwin5, _⟩, hsv5⟩; have HRow5 := Lib.hid hrow5; have HWin5 := Lib.hid (hwin5 rfl); have HSv5 := Lib.hid (HSv4.out.trans hsv5); clear hrow5 hwin5 hsv5))
            go_ret
            exact ⟨rfl, ⟨g2, HRow5.out, fun _ => HWin5.out, fun h => by cases h⟩, HSv5.out⟩
      · have hji : ¬ (j : Int) < (m : Int) := by omega
        have hR := HNo.out fun c hc => HNone.out c (by omega)
        subst hR
        go_wp2_with fail
        go_ret
        exact ⟨rfl, ⟨g', HRow'.out, fun h => (by cases h), fun _ => HAg.out⟩, HSv.out⟩
end Go.Proofs.Ytgpacajlfclobaa
