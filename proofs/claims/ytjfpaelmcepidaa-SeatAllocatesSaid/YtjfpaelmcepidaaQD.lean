/- The walk of the specification's Live; what pick's Live keeps while it runs. -/
import Derived.Test.YtjfpaelmcepidaaQE
import Derived.Test.YtjfpaelmcepidaaMP
import Derived.Test.YtjfpaelmcepidaaMR
import Derived.Deep.OwnRows
import Derived.Test.YtjfpaelmcepidaaVD
import Derived.IntWalk
import Derived.BigRegion
namespace Go.Proofs.Ytjfpaelmcepidaa.PK
open Go.RowKit

theorem infoRow1 : (Try.prog.info? 43).map (fun i => (i.zero, i.size, i.bytes)) = some (some (.slice none 0 0), 1, 24) := by kernel_rfl
theorem live_bool (ls : List (List Cd)) : ∃ F : Nat → Nat → Bool, ∀ b r : Nat, (F b r = true ↔ LiveR ls r b) := by
  classical
  exact ⟨fun b r => decide (LiveR ls r b), fun b r => by simp⟩
/-- One search, in a new row. -/
theorem read_one (regs : Int) (ls : List (List Cd)) (bl : Option Addr) (cap : Nat) (b r : Nat) (u : World) (hin : BlkIn u bl ls) (hm : ∀ k, k < ls.length → (atB ls k).length ≤ 9223372036854775807) (hto : ∀ k i, k < ls.length → i < (atB ls k).length → fT (atC (atB ls k) i).op = true → 0 ≤ (atC (atB ls k) i).to ∧ (atC (atB ls k) i).to < ls.length) (hb : b < ls.length) (F : Nat → Nat → Bool) (hF : ∀ b r : Nat, (F b r = true ↔ LiveR ls r b)) :
    Calls Try.prog 76 #[.agg #[.int .i64 regs, .slice bl ls.length cap], .int .i64 b, .int .i64 r, .slice (some ⟨u.heap.size, 0, none⟩) ls.length ls.length] (u.alloc (.cells (madeCells #[.bool false] ls.length) 4)).drew fun e w' => e = .returned (.bool (F b r)) ∧ Below u.heap.size u w' := by
  have hrow : BRowF (u.alloc (.cells (madeCells #[.bool false] ls.length) 4)).drew u.heap.size ls.length fun _ => false := by
    unfold BRowF TRow
    rw [show (u.alloc (.cells (madeCells #[.bool false] ls.length) 4)).drew.heap = (u.alloc (.cells (madeCells #[.bool false] ls.length) 4)).heap from rfl, heap_at _ _ _ rfl, valArr_made]
  have hal : Below u.heap.size u (u.alloc (.cells (madeCells #[.bool false] ls.length) 4)).drew := below_drew1 ((Below.refl _ _).alloc (Nat.le_refl _) _)
  refine (reads_all regs ls bl cap r u.heap.size u hin hm hto (Nat.le_refl _) _ (fun _ => false) b _ hal hrow hb rfl (Nat.le_refl _)).mono ?_
  rintro e w' ⟨v, S', rfl, _, hs, h1, h2⟩
  refine ⟨ret_bool ?_, hal.trans (hs.below (Nat.le_refl _) hal.size)⟩
  cases v
  · cases hf : F b r
    · rfl
    · exact absurd ((hF b r).1 hf) ((h2 rfl).not_live)
  · exact ((hF b r).2 (h1 rfl)).symm
theorem held_l {q p : Nat} {v0 v1 : Value} {w w1 w2 : World} (h : w1.cell? ⟨p, 0, none⟩ = some v0 ∧ w1.cell? ⟨p, 1, none⟩ = some v1 ∧ Below q w w1 ∧ q ≤ w1.heap.size) (hb : Below w1.heap.size w1 w2) :
    w2.cell? ⟨p, 0, none⟩ = some v0 ∧ w2.cell? ⟨p, 1, none⟩ = some v1 ∧ Below q w w2 ∧ q ≤ w2.heap.size :=
  ⟨keep h.1 hb, keep h.2.1 hb, h.2.2.1.trans (hb.mono h.2.2.2), Nat.le_trans h.2.2.2 hb.size⟩
theorem held_m {q p : Nat} {v0 v1 : Value} {w w1 w2 : World} (h : w1.cell? ⟨p, 0, none⟩ = some v0 ∧ w1.cell? ⟨p, 1, none⟩ = some v1 ∧ Below q w w1 ∧ q ≤ w1.heap.size) (_ : w1.heap.size = q) (hb : Below w1.heap.size w1 w2) :
    w2.cell? ⟨p, 0, none⟩ = some v0 ∧ w2.cell? ⟨p, 1, none⟩ = some v1 ∧ Below q w w2 ∧ q ≤ w2.heap.size := held_l h hb
set_option maxRecDepth 100000 in
set_option maxHeartbeats 8000000 in
theorem rLive_ok (regs : Int) (ls : List (List Cd)) (bl : Option Addr) (cap : Nat) (w : World) (hin : BlkIn w bl ls) (hv : progErrW regs ls = 0) (hlm : ∀ k, k < ls.length → (atB ls k).length ≤ 9223372036854775807) :
    Calls Try.prog 35 #[.agg #[.int .i64 regs, .slice bl ls.length cap]] w (LvPost regs ls w) := by
  obtain ⟨hbig, hcode, _⟩ := prog_partsW hv
  have hb2 : 0 ≤ regs ∧ regs ≤ 200 ∧ 1 ≤ ls.length ∧ ls.length ≤ 400 := by unfold tooBigW at hbig; omega
  obtain ⟨hr0, hr1, hn0, hn1⟩ := hb2
  obtain ⟨F, hF⟩ := live_bool ls
  have HV := Lib.hid (fun u (h : BlkIn u bl ls) => (by have h1 := rValidateW_any regs ls bl cap u h (by omega) (fun k hk => Nat.le_trans (hlm k hk) (by omega)); rw [hv] at h1; exact h1 : Calls Try.prog 8 #[.agg #[.int .i64 regs, .slice bl ls.length cap]] u fun e w' => e = .returned (.int .i64 0) ∧ Below u.heap.size u w'))
  have HRd := Lib.hid (fun u (h : BlkIn u bl ls) (b r : Nat) hb => read_one regs ls bl cap b r u h hlm (fun k i hk hi => (code_parts (hcode k i hk hi)).2.2.2.2.2.2.2.1) hb F hF)
  have HI := Lib.hid hin
  have HPost : Hid (∀ v wx, RowsOwn wx w.heap.size v (rowsFn ls.length fun b => picks (F b) regs.toNat) → Below w.heap.size w wx → LvPost regs ls w (.returned (.tuple #[v, .int .i64 0])) wx) := Lib.hid (fun v wx h1 h2 => ⟨by rw [if_pos hv]; exact ⟨v, _, rfl, ⟨F, fun b _ r _ => hF b r, rfl⟩, h1⟩, h2⟩)
  have hmk := run_make_row' (P := Try.prog) 83 4 (.bool false) 1 Try.underlying83 infoBool rfl .i64 .i64 ls.length (by omega) (by omega)
  obtain ⟨i0, hi, ip0, ip1, ip2⟩ := info_parts Try.infoInt
  obtain ⟨j0, hj, jp0, jp1, jp2⟩ := info_parts infoRow1
  clear hin hv hbig hcode hlm hF
  obtain ⟨rn, hrn⟩ : ∃ rn : Nat, regs = rn := ⟨regs.toNat, by omega⟩
  subst hrn
  rw [Int.toNat_natCast] at HPost
  have hrn2 : rn ≤ 200 := by omega
  go_enter Try.func35, Try.ntmps35
  go_upto_region 1 with (fail)
  have HB0 : Hid (Below w.heap.size w (w.alloc (.cells #[.int .i64 rn, .slice bl ls.length cap] 24))) := Lib.hid ((Below.refl _ _).alloc (Nat.le_refl _) _)
  have hp0 : (w.alloc (.cells #[.int .i64 rn, .slice bl ls.length cap] 24)).cell? ⟨w.heap.size, 0, none⟩ = some (.int .i64 rn) := by simp [go_sem]
  have hp1 : (w.alloc (.cells #[.int .i64 rn, .slice bl ls.length cap] 24)).cell? ⟨w.heap.size, 1, none⟩ = some (.slice bl ls.length cap) := by simp [go_sem]
  generalize w.alloc (.cells #[.int .i64 rn, .slice bl ls.length cap] 24) = w0 at *
  generalize hpq : w.heap.size = pq at hp0 hp1
  have hpq2 : pq < w0.heap.size := block_lt_of_cell hp0
  subst hpq
  go_wp2_with fail
  refine (HV.out _ (HI.out.below HB0.out)).mono ?_; rintro e w1 ⟨rfl, hb1⟩
  have HB1 := Lib.hid (HB0.out.trans (hb1.mono HB0.out.size))
  have HP0 := Lib.hid (keep hp0 hb1); have HP1 := Lib.hid (keep hp1 hb1)
  clear hb1 hp0 hp1 HB0 HV hpq2
  go_wp2_with fail
  go_loopw [5, 6] (fun v c wr => ∃ b : Nat, b ≤ ls.length ∧ c = .int .i64 b ∧ RowsOwn wr w1.heap.size v (rowsFn b fun b => picks (F b) rn) ∧ Below w1.heap.size w1 wr) (fun _ c _ => ls.length - (intOf c).toNat)
  case atStart => exact ⟨0, Nat.zero_le _, rfl, RowsOwn.nil _ _, Below.refl _ _⟩
  case round =>
    obtain ⟨b, hb, rfl, hro, hbw⟩ := hrel
    have hp1 := keep HP1.out hbw
    by_cases hlt : b < ls.length
    · have HRo := Lib.hid hro; have HBw := Lib.hid hbw
      have HP0' := Lib.hid (keep HP0.out hbw); have HP1' := Lib.hid hp1
      have hbl : (b : Int) < (ls.length : Int) := by omega
      have hbw2 : Hid (Below w.heap.size w wr) := Lib.hid (HB1.out.trans (hbw.mono HB1.out.size))
      clear hro hbw
      go_wp2_with fail
      generalize wr = wo at *
      go_loopw [7, 8] (fun v c ws => ∃ r : Nat, r ≤ rn ∧ c = .int .i64 r ∧ ws.ownsRow wo.heap.size 3 1 v (picks (F b) r).length (encI (picks (F b) r)) ∧ Below wo.heap.size wo ws) (fun _ c _ => rn - (intOf c).toNat)
      case atStart => exact ⟨0, Nat.zero_le _, rfl, owns_nil _ _ _ _, Below.refl _ _⟩
      case round =>
        obtain ⟨r, hr, rfl, hown, hbs⟩ := hrel
        obtain ⟨va, vc, rfl⟩ := owns_shape hown
        have hp0 := keep HP0'.out hbs
        by_cases hlr : r < rn
        · obtain ⟨q1, hq1⟩ : ∃ q, wr.heap.size = q := ⟨_, rfl⟩
          have hS : wr.cell? ⟨w.heap.size, 0, none⟩ = some (.int .i64 rn) ∧ wr.cell? ⟨w.heap.size, 1, none⟩ = some (.slice bl ls.length cap) ∧ Below q1 wr wr ∧ q1 ≤ wr.heap.size := by subst hq1; exact ⟨hp0, keep HP1'.out hbs, Below.refl _ _, Nat.le_refl _⟩
          have hwr : Hid (Below w.heap.size w wr) := Lib.hid (hbw2.out.trans (hbs.mono hbw2.out.size))
          have HPk := Lib.hid (picks_succ (F b) r)
          have HR0 := Lib.hid (HRd.out wr (HI.out.below hwr.out) b r hlt)
          have hpl := picks_len (F b) r
          generalize hfb : F b r = fb at *
          clear hfb
          have HQ1 := Lib.hid hq1; clear hq1
          have HO := Lib.hid hown; have HBs := Lib.hid hbs
          generalize picks (F b) r = f0 at *
          have hlr2 : (r : Int) < (rn : Int) := by omega
          clear hown hbs
          go_wp2_with fail
          go_region_held3 (fun w' => w'.cell? ⟨w.heap.size, 0, none⟩ = some (.int .i64 rn) ∧ w'.cell? ⟨w.heap.size, 1, none⟩ = some (.slice bl ls.length cap) ∧ Below q1 wr w' ∧ q1 ≤ w'.heap.size)
            (first | exact hS | exact held_l hS (below_drew1 (Below.refl _ _)) | exact held_l (by assumption) (by assumption) | exact held_l (by assumption) ((Below.refl _ _).alloc (Nat.le_refl _) _) | exact held_m hS HQ1.out (by assumption))
            ((go_at_call 76; refine HR0.out.mono ?_; rintro e w5 ⟨rfl, hb5⟩))
          have HB5 := Lib.hid hb5
          have HO5 := Lib.hid (owns_below HO.out hb5)
          have HBs5 := Lib.hid (HBs.out.trans (hb5.mono HBs.out.size))
          clear hb5 hS hp0 HO HBs
          cases fb
          · go_wp2_with fail
            go_roundw
            case rel => exact ⟨r + 1, by omega, by go_num, by rw [HPk.out]; simpa using HO5.out, HBs5.out⟩
            case measure => simp [intOf]; omega
          · have HN6 := Lib.hid (cell_one_at w5 (.int .i64 r) 3)
            have HO6 := Lib.hid (HO5.out.alloc (.cells #[.int .i64 r] 3))
            have HB6 := Lib.hid (HBs5.out.alloc HBs5.out.size (.cells #[.int .i64 r] 3))
            have HS63 : Hid (f0.length + 1 ≤ maxLen) := Lib.hid (by unfold maxLen; omega)
            have HSb : Hid ((f0.length + 1) * 8 ≤ 140737488355328) := Lib.hid (by omega)
            have HZ6 : Hid (wo.heap.size ≤ (w5.alloc (.cells #[.int .i64 r] 3)).heap.size) := Lib.hid HB6.out.size
            have HG5 : Hid (∀ g, (Value.slice va f0.length vc).ownBlock = some g → wo.heap.size ≤ g) := Lib.hid (fun g hg => (owns_block HO5.out hg).1)
            go_wp2_with (at_builtin; refine wpList_append_own_at _ rfl _ _ 43 rfl wo.heap.size 3 i0 (.int .i64 0) 1 8 Try.underlying43 hi ip0 ip1 ip2 rfl (by decide) _ _ _ rfl HO6.out ⟨w5.heap.size, 0, none⟩ 1 1 [.int .i64 r] rfl rfl HN6.out (one_int _) HS63.out HSb.out HZ6.out ?_; intro v9 w9 hown9 hgrow9 _ _; obtain ⟨v9a, v9c, rfl⟩ := owns_shape hown9; have HO9 := Lib.hid hown9; have HB9 := Lib.hid (HB6.out.grown hgrow9 HZ6.out (fun g hg => HG5.out g hg)); clear hown9 hgrow9)
            go_roundw
            case rel => exact ⟨r + 1, by omega, by go_num, by rw [HPk.out, if_pos rfl, List.length_append, encI_snoc]; exact HO9.out, HB9.out⟩
            case measure => simp [intOf]; omega
        · have hre : r = rn := by omega
          subst hre
          have hfl := picks_len (F b) r
          have HSn := Lib.hid (rowsFn_snoc b fun b => picks (F b) r)
          have hL := rowsFn_len b fun b => picks (F b) r
          have hro := HRo.out.below hbs
          generalize (rowsFn b fun b => picks (F b) r) = L at *
          generalize hL1 : (rowsFn (b + 1) fun b => picks (F b) r) = L1 at *
          have HL1 := Lib.hid hL1; clear hL1
          have hL2 : L.length ≤ 400 := by omega
          generalize picks (F b) r = f at *
          obtain ⟨vals, hov, hra⟩ := hro
          have HOv := Lib.hid hov; have HRa := Lib.hid hra
          have HO := Lib.hid hown; have HBs := Lib.hid hbs
          have HRg : Hid (∀ g, u5.ownBlock = some g → w1.heap.size ≤ g ∧ g < wo.heap.size) := Lib.hid (fun g hg => by obtain ⟨vals0, hov0, _⟩ := HRo.out; exact owns_block hov0 hg)
          obtain ⟨ua, uc, hu5⟩ := owns_shape hov
          subst hu5
          have hvl := hov.1
          have HN6 := Lib.hid (cell_one_at wr (.slice va f.length vc) 43)
          have HO6 := Lib.hid (HOv.out.alloc (.cells #[.slice va f.length vc] 43))
          have HB6 := Lib.hid ((Below.refl wr.heap.size wr).alloc (Nat.le_refl _) (.cells #[.slice va f.length vc] 43))
          have HBw6 := Lib.hid ((HBw.out.trans (HBs.out.mono HBw.out.size)).alloc (Nat.le_trans HBw.out.size HBs.out.size) (.cells #[.slice va f.length vc] 43))
          have HBz : Hid (w1.heap.size ≤ wo.heap.size) := Lib.hid HBw.out.size
          have HZ6 : Hid (w1.heap.size ≤ (wr.alloc (.cells #[.slice va f.length vc] 43)).heap.size) := Lib.hid (Nat.le_trans HBz.out (Nat.le_trans HBs.out.size HB6.out.size))
          have HS63 : Hid (L.length + 1 ≤ maxLen) := Lib.hid (by unfold maxLen; omega)
          have HSb : Hid ((L.length + 1) * 24 ≤ 140737488355328) := Lib.hid (by omega)
          clear hov hra hown hbs hvl hL
          go_wp2_with (at_builtin; refine wpList_append_own_at _ rfl _ _ 61 rfl w1.heap.size 43 j0 (.slice none 0 0) 1 24 Try.underlying61 hj jp0 jp1 jp2 rfl (by decide) _ _ _ rfl HO6.out ⟨wr.heap.size, 0, none⟩ 1 1 [.slice va f.length vc] rfl rfl HN6.out (by simp [Value.oneCell']) HS63.out HSb.out HZ6.out ?_; intro v9 w9 hown9 hgrow9 _ hat9; have HO9 := Lib.hid hown9; have HG9 := Lib.hid hgrow9; have HA9 := Lib.hid hat9; clear hown9 hgrow9 hat9)
          go_roundw
          case rel => exact ⟨b + 1, by omega, by go_num, by rw [HL1.out, HSn.out]; exact RowsOwn.snoc_own HOv.out HRa.out (fun g hg => (HRg.out g hg).2) HBz.out HO.out HO9.out HG9.out HA9.out, HBw6.out.grown HG9.out HBw6.out.size (fun g hg => (HRg.out g hg).1)⟩
          case measure => simp [intOf]; omega
    · have hbe : b = ls.length := by omega
      subst hbe
      have HF := Lib.hid (HPost.out _ _ (hro.base HB1.out.size) (HB1.out.trans (hbw.mono HB1.out.size)))
      clear hro hbw
      go_wp2_with fail
      go_ret2
      exact HF.out
end Go.Proofs.Ytjfpaelmcepidaa.PK
namespace Go.Proofs.Ytjfpaelmcepidaa.PK
open Go.RowKit Go.Shelf

def inF (S : Nat → Nat → Bool) : Int → Int → Bool := fun c r => S c.toNat r.toNat
/-- The blocks to which a program leads are its own. -/
def Leads (ls : List (List Cd)) : Prop := ∀ b, b < ls.length → ∀ x ∈ atB ls b, fT x.op = true → 0 ≤ x.to ∧ x.to < ls.length
theorem Leads.go {ls : List (List Cd)} (h : Leads ls) {b : Nat} (hb : b < ls.length) (r : Int) : ∀ c ∈ goL (atB ls b) r, 0 ≤ c ∧ c < ls.length := goL_to (P := fun c => 0 ≤ c ∧ c < (ls.length : Int)) (h b hb)
theorem live_mono {ls : List (List Cd)} (hL : Leads ls) {regs : Nat} {S S' : Nat → Nat → Bool} (h : ∀ c r : Nat, c < ls.length → r < regs → S c r = true → S' c r = true) {b r : Nat} (hb : b < ls.length) (hr : r < regs) (hl : liveL (atB ls b) (inF S) r = true) : liveL (atB ls b) (inF S') r = true := by
  rw [liveL_is, Bool.or_eq_true, List.any_eq_true] at *
  rcases hl with h1 | ⟨c, h1, h2⟩
  · exact .inl h1
  · obtain ⟨h3, h4⟩ := hL.go hb r c h1
    exact .inr ⟨c, h1, h _ _ (by omega) (by simpa using hr) h2⟩
theorem live_sound {ls : List (List Cd)} (hL : Leads ls) {regs : Nat} {S : Nat → Nat → Bool} (h : ∀ c r : Nat, c < ls.length → r < regs → S c r = true → LiveR ls r c) {b r : Nat} (hb : b < ls.length) (hr : r < regs) (hl : liveL (atB ls b) (inF S) r = true) : LiveR ls r b := by
  rw [liveL_is, Bool.or_eq_true, List.any_eq_true] at hl
  rcases hl with h1 | ⟨c, h1, h2⟩
  · exact .hit h1
  · obtain ⟨h3, h4⟩ := hL.go hb r c h1
    obtain ⟨n, rfl⟩ : ∃ n : Nat, c = n := ⟨c.toNat, by omega⟩
    exact .go h1 (h n r (by omega) hr (by simpa [inF] using h2))
/-- How a pass stands when it has gone through k blocks, the last ones. -/
structure PassI (ls : List (List Cd)) (regs : Nat) (S0 S : Nat → Nat → Bool) (k : Nat) (ag : Bool) : Prop where
  sound : ∀ b r : Nat, b < ls.length → r < regs → S b r = true → LiveR ls r b
  pre : ∀ b r : Nat, b < ls.length → r < regs → S b r = true → liveL (atB ls b) (inF S) r = true
  mono : ∀ b r : Nat, b < ls.length → r < regs → S0 b r = true → S b r = true
  no : ag = false → (∀ b r : Nat, b < ls.length → r < regs → S b r = S0 b r) ∧ ∀ b r : Nat, ls.length - k ≤ b → b < ls.length → r < regs → liveL (atB ls b) (inF S) r = true → S b r = true
  yes : ag = true → ∃ b r : Nat, b < ls.length ∧ r < regs ∧ S0 b r = false ∧ S b r = true
theorem PassI.start {ls : List (List Cd)} {regs : Nat} {S0 S : Nat → Nat → Bool} {k : Nat} {ag : Bool} (h : PassI ls regs S0 S k ag) : PassI ls regs S S 0 false :=
  ⟨h.sound, h.pre, fun _ _ _ _ h => h, fun _ => ⟨fun _ _ _ _ => rfl, fun b r h1 h2 => by omega⟩, fun e => by cases e⟩
theorem PassI.first (ls : List (List Cd)) (regs : Nat) (S0 : Nat → Nat → Bool) (h0 : ∀ b r, b < ls.length → r < regs → S0 b r = false) : PassI ls regs S0 S0 0 false :=
  ⟨fun b r hb hr h => (by rw [h0 b r hb hr] at h; cases h), fun b r hb hr h => (by rw [h0 b r hb hr] at h; cases h), fun _ _ _ _ h => h, fun _ => ⟨fun _ _ _ _ => rfl, fun b r h1 h2 => by omega⟩, fun e => by cases e⟩
theorem PassI.keep {ls : List (List Cd)} {regs : Nat} {S0 S : Nat → Nat → Bool} {k : Nat} (h : PassI ls regs S0 S k false) (hk : k < ls.length) (he : ∀ r : Nat, r < regs → liveL (atB ls (ls.length - 1 - k)) (inF S) r = S (ls.length - 1 - k) r) : PassI ls regs S0 S (k + 1) false :=
  ⟨h.sound, h.pre, h.mono, fun _ => ⟨(h.no rfl).1, fun b r h1 h2 h3 h4 => by
    by_cases e : b = ls.length - 1 - k
    · subst e; rw [← he r h3]; exact h4
    · exact (h.no rfl).2 b r (by omega) h2 h3 h4⟩, fun e => by cases e⟩
/-- The rows with one of them put anew. -/
def upS (S : Nat → Nat → Bool) (b : Nat) (N : Nat → Bool) : Nat → Nat → Bool := fun b' r => if b' = b then N r else S b' r
theorem PassI.step {ls : List (List Cd)} (hL : Leads ls) {regs : Nat} {S0 S : Nat → Nat → Bool} {k : Nat} {ag : Bool} (h : PassI ls regs S0 S k ag) {b : Nat} (hb : b < ls.length) (hc : ag = true ∨ ∃ r, r < regs ∧ liveL (atB ls b) (inF S) r ≠ S b r) : PassI ls regs S0 (upS S b fun r => liveL (atB ls b) (inF S) r) (k + 1) true := by
  have hup : ∀ c r : Nat, c < ls.length → r < regs → S c r = true → upS S b (fun r => liveL (atB ls b) (inF S) r) c r = true := fun c r hcl hr hs => by
    unfold upS
    split
    · rename_i e; rw [e] at hs; exact h.pre b r hb hr hs
    · exact hs
  refine ⟨fun c r hcl hr hs => ?_, fun c r hcl hr hs => ?_, fun c r hcl hr hs => hup c r hcl hr (h.mono c r hcl hr hs), fun e => (by cases e), fun _ => ?_⟩
  · unfold upS at hs
    split at hs
    · rename_i e; rw [e]; exact live_sound hL h.sound hb hr hs
    · exact h.sound c r hcl hr hs
  · refine live_mono hL hup hcl hr ?_
    unfold upS at hs
    split at hs
    · rename_i e; rw [e]; exact hs
    · exact h.pre c r hcl hr hs
  · cases hag : ag
    · obtain ⟨hno, _⟩ := h.no hag
      rcases hc with hc | ⟨r, hr, hne⟩
      · rw [hag] at hc; cases hc
      · have hs : S b r = false := by
          cases hsb : S b r
          · rfl
          · exact absurd ((h.pre b r hb hr hsb).trans hsb.symm) hne
        refine ⟨b, r, hb, hr, by rw [← hno b r hb hr]; exact hs, ?_⟩
        unfold upS
        rw [if_pos rfl]
        rw [hs] at hne
        simpa using hne
    · obtain ⟨b', r', h1, h2, h3, h4⟩ := h.yes hag
      exact ⟨b', r', h1, h2, h3, hup b' r' h1 h2 h4⟩
theorem PassI.fix {ls : List (List Cd)} {regs : Nat} {S0 S : Nat → Nat → Bool} (h : PassI ls regs S0 S ls.length false) {b r : Nat} (hb : b < ls.length) (hr : r < regs) : S b r = true ↔ LiveR ls r b := by
  refine ⟨h.sound b r hb hr, fun hl => ?_⟩
  have := live_fix (ls := ls) (inn := fun c r' => decide (c.toNat < ls.length) && S c.toNat r'.toNat) (r := (r : Int)) (fun c hc => by
    by_cases hcl : c < ls.length
    · have h1 : liveL (atB ls c) (inF S) r = true := by
        rw [liveL_is, Bool.or_eq_true, List.any_eq_true] at hc ⊢
        rcases hc with h1 | ⟨d, h1, h2⟩
        · exact .inl h1
        · simp only [Bool.and_eq_true] at h2
          exact .inr ⟨d, h1, h2.2⟩
      have := (h.no rfl).2 c r (by omega) hcl hr h1
      simp [hcl, this]
    · rw [show atB ls c = [] by unfold atB; rw [List.getD_eq_getElem?_getD, List.getElem?_eq_none (by omega)]; rfl] at hc
      cases hc) hl
  simp [hb] at this
  exact this
/-- How many are not yet seen. -/
def cntB (S : Nat → Nat → Bool) (regs : Nat) : Nat → Nat
  | 0 => 0
  | n + 1 => cntB S regs n + unseen (S n) regs
theorem unseen_le' {S S' : Nat → Bool} : ∀ {n}, (∀ k, k < n → S k = true → S' k = true) → unseen S' n ≤ unseen S n
  | 0, _ => Nat.le_refl _
  | n + 1, h => by
    have := unseen_le' (n := n) fun k hk => h k (by omega)
    unfold unseen
    cases h1 : S n
    · simp only [Bool.false_eq_true, if_false]; split <;> omega
    · rw [h n (by omega) h1]; simpa using this
theorem unseen_lt' {S S' : Nat → Bool} {b : Nat} (h0 : S b = false) (h1 : S' b = true) : ∀ {n}, (∀ k, k < n → S k = true → S' k = true) → b < n → unseen S' n < unseen S n
  | 0, _, hb => absurd hb (Nat.not_lt_zero _)
  | n + 1, h, hb => by
    unfold unseen
    by_cases e : b = n
    · subst e
      have := unseen_le' (n := b) fun k hk => h k (by omega)
      rw [h0, h1]; simp; omega
    · have := unseen_lt' h0 h1 (n := n) (fun k hk => h k (by omega)) (by omega)
      cases h2 : S n
      · simp only [Bool.false_eq_true, if_false]; split <;> omega
      · rw [h n (by omega) h2]; simpa using this
theorem cntB_le {S S' : Nat → Nat → Bool} {regs : Nat} : ∀ {n}, (∀ b r, b < n → r < regs → S b r = true → S' b r = true) → cntB S' regs n ≤ cntB S regs n
  | 0, _ => Nat.le_refl _
  | n + 1, h => by
    have h1 := cntB_le (n := n) fun b r hb => h b r (by omega)
    have h2 := unseen_le' (S := S n) (S' := S' n) (n := regs) fun k hk => h n k (by omega) hk
    unfold cntB; omega
theorem cntB_lt {S S' : Nat → Nat → Bool} {regs b r : Nat} (h0 : S b r = false) (h1 : S' b r = true) (hr : r < regs) : ∀ {n}, (∀ b r, b < n → r < regs → S b r = true → S' b r = true) → b < n → cntB S' regs n < cntB S regs n
  | 0, _, hb => absurd hb (Nat.not_lt_zero _)
  | n + 1, h, hb => by
    unfold cntB
    by_cases e : b = n
    · subst e
      have h2 := cntB_le (S := S) (S' := S') (n := b) fun b' r' hb' => h b' r' (by omega)
      have h3 := unseen_lt' h0 h1 (n := regs) (fun k hk => h b k (by omega) hk) hr
      omega
    · have h2 := cntB_lt h0 h1 hr (n := n) (fun b' r' hb' => h b' r' (by omega)) (by omega)
      have h3 := unseen_le' (S := S n) (S' := S' n) (n := regs) fun k hk => h n k (by omega) hk
      omega
theorem PassI.less {ls : List (List Cd)} {regs : Nat} {S0 S : Nat → Nat → Bool} {k : Nat} (h : PassI ls regs S0 S k true) : cntB S regs ls.length < cntB S0 regs ls.length := by
  obtain ⟨b, r, h1, h2, h3, h4⟩ := h.yes rfl
  exact cntB_lt h3 h4 h2 (fun b r hb hr => h.mono b r hb hr) h1

/-! ### Equal rows -/
def eqB (n : Nat) (S S' : Nat → Bool) : Bool := (List.range n).all fun r => S r == S' r
theorem eqB_true {n : Nat} {S S' : Nat → Bool} (h : ∀ r, r < n → S r = S' r) : eqB n S S' = true := by
  unfold eqB
  rw [List.all_eq_true]
  intro r hr
  rw [h r (List.mem_range.1 hr)]; simp
theorem eqB_at {n : Nat} {S S' : Nat → Bool} (h : eqB n S S' = true) {r : Nat} (hr : r < n) : S r = S' r := by
  unfold eqB at h
  rw [List.all_eq_true] at h
  simpa using h r (List.mem_range.2 hr)
theorem eqB_false {n : Nat} {S S' : Nat → Bool} {r : Nat} (hr : r < n) (h : S r ≠ S' r) : eqB n S S' = false := by
  cases he : eqB n S S'
  · rfl
  · exact absurd (eqB_at he hr) h
theorem eqB_ne {n : Nat} {S S' : Nat → Bool} (h : eqB n S S' = false) : ∃ r, r < n ∧ S r ≠ S' r := by
  unfold eqB at h
  rw [List.all_eq_false] at h
  obtain ⟨r, hr, hne⟩ := h
  exact ⟨r, List.mem_range.1 hr, by simpa using hne⟩
def eqYet (S S' : Nat → Bool) (k : Nat) : Prop := ∀ r, r < k → S r = S' r
set_option maxRecDepth 100000 in
set_option maxHeartbeats 2000000 in
theorem equalB_any (q1 q2 n : Nat) (S S' : Nat → Bool) (w : World) (h1 : BRowF w q1 n S) (h2 : BRowF w q2 n S') (hn : n ≤ 200) :
    Calls Try.prog 56 #[.slice (some ⟨q1, 0, none⟩) n n, .slice (some ⟨q2, 0, none⟩) n n] w fun e w' => e = .returned (.bool (eqB n S S')) ∧ Below w.heap.size w w' := by
  have H1 := Lib.hid h1; have H2 := Lib.hid h2
  clear h1 h2
  go_enter Try.func56, Try.ntmps56
  go_wp2_with fail
  go_loopw [13] (fun c wr => ∃ k : Nat, k ≤ n ∧ c = .int .i64 k ∧ eqYet S S' k ∧ ∃ m, wr = w.drewN m) (fun c _ => n - (intOf c).toNat)
  case atStart => exact ⟨0, Nat.zero_le _, rfl, fun r hr => absurd hr (Nat.not_lt_zero _), 0, rfl⟩
  case round =>
    obtain ⟨k, hk, rfl, hy, m, rfl⟩ := hrel
    have HY := Lib.hid hy; clear hy
    by_cases hlt : k < n
    · have c1 := TRow.cell H1.out hlt
      have c2 := TRow.cell H2.out hlt
      have hki : (k : Int) < (n : Int) := by omega
      obtain ⟨x, hx⟩ : ∃ x, S k = x := ⟨_, rfl⟩
      obtain ⟨y, hy⟩ : ∃ y, S' k = y := ⟨_, rfl⟩
      rw [hx] at c1
      rw [hy] at c2
      have HX := Lib.hid hx; have HYY := Lib.hid hy
      clear hx hy
      by_cases e : x = y
      · have HE : Hid (eqYet S S' (k + 1)) := Lib.hid fun r hr => by
          by_cases e2 : r = k
          · rw [e2, HX.out, HYY.out, e]
          · exact HY.out r (by omega)
        subst e
        cases x
        all_goals
          go_wp2_with fail
          go_quiet (fail)
          go_wp2_with fail
          go_roundw
          case rel => exact ⟨k + 1, by omega, by go_num, HE.out, _, rfl⟩
          case measure => simp [intOf]; omega
      · have HE := Lib.hid (eqB_false (n := n) hlt (show S k ≠ S' k by rw [HX.out, HYY.out]; exact e))
        cases x <;> cases y
        · exact absurd rfl e
        · go_wp2_with fail
          go_quiet (fail)
          go_wp2_with fail
          go_ret
          exact ⟨ret_bool HE.out.symm, by rw [World.drewN_drewN]; exact below_drewN (Below.refl _ _) _⟩
        · go_wp2_with fail
          go_quiet (fail)
          go_wp2_with fail
          go_ret
          exact ⟨ret_bool HE.out.symm, by rw [World.drewN_drewN]; exact below_drewN (Below.refl _ _) _⟩
        · exact absurd rfl e
    · have hke : k = n := by omega
      subst hke
      have HE := Lib.hid (eqB_true HY.out)
      go_wp2_with fail
      go_ret
      exact ⟨ret_bool HE.out.symm, below_drewN (Below.refl _ _) _⟩

/-! ### Marks -/
/-- The marks of loops over functions that have ended. -/
def marks (Ds : List Nat) : List Deferred := Ds.map fun D => { target := .collected D, args := #[] }
structure MarksIn (B : Nat) (W : World) (Ds : List Nat) : Prop where
  nodup : Ds.Nodup
  shut : ∀ D ∈ Ds, B ≤ D ∧ W.heap[D]? = some (.deferred (some []))
theorem leaves_marks {F : Fence} {n : Nat} {P : Program} {fn : Func} {tmps : Array Value} {R : Ending → World → Prop} {B : Nat} {v : Value} (hres : ∀ W, (results fn tmps).run P W = .ok v W) : ∀ (Ds : List Nat) (W : World), MarksIn B W Ds → (∀ W', Turn B W W' → R (.returned v) W') → LeavesInM F n P fn tmps R (marks Ds) .returning W
  | [], W, _, h => ⟨v, hres W, h W (Turn.refl _ _)⟩
  | D :: Ds, W, hm, h => by
    obtain ⟨hB, hD⟩ := hm.shut D (by simp)
    have ht : Turn B W (W.putObj D (.deferred none)) := Turn.put _ hD rfl hB
    refine ⟨by simp, .inl ⟨D, _, rfl, run_takeDeferred hD, ?_⟩⟩
    have hnd := List.nodup_cons.1 hm.nodup
    refine leaves_marks hres Ds _ ⟨hnd.2, fun E hE => ?_⟩ fun W' hW' => h W' (ht.trans hW')
    obtain ⟨h1, h2⟩ := hm.shut E (by simp [hE])
    exact ⟨h1, (World.putObj_heap_other (fun e => hnd.1 (by rw [← e]; exact hE))).trans h2⟩
end Go.Proofs.Ytjfpaelmcepidaa.PK
namespace Go.Proofs.Ytjfpaelmcepidaa.PK
open Go.RowKit Go.Shelf
attribute [local go_sem] Oper.semAt_some

theorem infoRowB : (Try.prog.info? 83).map (fun i => (i.zero, i.size, i.bytes)) = some (some (.slice none 0 0), 1, 24) := by kernel_rfl
theorem leads_of {ls : List (List Cd)} {regs : Int} (hcode : ∀ k i, k < ls.length → i < (atB ls k).length → isCodeB (atC (atB ls k) i) regs ls.length = true) : Leads ls := fun b hb x hx hT => by
  obtain ⟨i, hi, rfl⟩ := mem_atC hx
  exact (code_parts (hcode b i hb hi)).2.2.2.2.2.2.2.1 hT
/-- How the rows stand while they are made. -/
structure MkI (w1 : World) (n rn b : Nat) (g : Nat → Nat) (W : World) : Prop where
  low : Below w1.heap.size w1 W
  box : Boxed W (w1.heap.size + 1) 101 (.slice (some ⟨w1.heap.size, 0, none⟩) n n)
  head : TRow W w1.heap.size n 83 fun k => if k < b then .slice (some ⟨g k, 0, none⟩) rn rn else .slice none 0 0
  rows : ∀ k, k < b → BRowF W (g k) rn (fun _ => false) ∧ w1.heap.size + 1 < g k
def MkS (w1 : World) (n rn b : Nat) (W : World) : Prop := ∃ g, MkI w1 n rn b g W
theorem TRow.congr {w : World} {q n : Nat} {t : TypeId} {f f' : Nat → Value} (h : TRow w q n t f) (he : ∀ k, k < n → f k = f' k) : TRow w q n t f' := by
  unfold TRow at *
  rw [h]
  congr 2
  unfold valArr
  apply Array.ext
  · simp
  · intro i h1 h2
    have hi : i < n := by simpa using h1
    simp [he i hi]
theorem TRow.other {w : World} {q n p k : Nat} {t : TypeId} {f : Nat → Value} {v : Value} (h : TRow w q n t f) (hq : q ≠ p) : TRow (w.setCell ⟨p, k, none⟩ v) q n t f := TRow.save h (Save.set p k w v) hq
theorem held_2 {p q : Nat} {v0 v1 : Value} {w1 w2 : World} (h : w1.cell? ⟨p, 0, none⟩ = some v0 ∧ w1.cell? ⟨q, 0, none⟩ = some v1) (hb : Below w1.heap.size w1 w2) : w2.cell? ⟨p, 0, none⟩ = some v0 ∧ w2.cell? ⟨q, 0, none⟩ = some v1 := ⟨keep h.1 hb, keep h.2 hb⟩
theorem held_2s {p q s k : Nat} {v0 v1 v : Value} {w1 : World} (hp : p ≠ s) (hq : q ≠ s) (h : w1.cell? ⟨p, 0, none⟩ = some v0 ∧ w1.cell? ⟨q, 0, none⟩ = some v1) : (w1.setCell ⟨s, k, none⟩ v).cell? ⟨p, 0, none⟩ = some v0 ∧ (w1.setCell ⟨s, k, none⟩ v).cell? ⟨q, 0, none⟩ = some v1 := ⟨cell_other h.1 hp, cell_other h.2 hq⟩
theorem mk_start (w1 : World) (n rn : Nat) : MkS w1 n rn 0 ((w1.alloc (.cells (madeCells #[.slice none 0 0] n) 83)).alloc (.cells #[.slice (some ⟨w1.heap.size, 0, none⟩) n n] 101)) := by
  refine ⟨fun _ => 0, ((Below.refl _ _).alloc (Nat.le_refl _) _).alloc (by simp) _, ?_, ?_, fun k hk => absurd hk (Nat.not_lt_zero _)⟩
  · have h := Boxed.new (w1.alloc (.cells (madeCells #[.slice none 0 0] n) 83)) 101 (.slice (some ⟨w1.heap.size, 0, none⟩) n n)
    simpa using h
  · unfold TRow
    rw [heap_past _ _ _ (by simp), heap_at _ _ _ rfl, valArr_made]
    rfl
theorem mk_step {w1 : World} {n rn b : Nat} {g : Nat → Nat} {W : World} (h : MkI w1 n rn b g W) : MkS w1 n rn (b + 1) ((W.alloc (.cells (madeCells #[.bool false] rn) 4)).setCell ⟨w1.heap.size, b, none⟩ (.slice (some ⟨W.heap.size, 0, none⟩) rn rn)).drew := by
  have hlt := TRow.lt h.head
  have hbx : w1.heap.size + 1 < W.heap.size := lt_of_block h.box
  have hal := (Below.refl W.heap.size W).alloc (Nat.le_refl _) (.cells (madeCells #[.bool false] rn) 4)
  have hset := (Below.refl w1.heap.size (W.alloc (.cells (madeCells #[.bool false] rn) 4))).setCell (p := ⟨w1.heap.size, b, none⟩) (Nat.le_refl _) (.slice (some ⟨W.heap.size, 0, none⟩) rn rn)
  have hdr : ∀ u : World, Below u.heap.size u u.drew := fun u => below_drew1 (Below.refl _ _)
  refine ⟨fun k => if k = b then W.heap.size else g k, below_drew1 (h.low.trans ((hal.mono h.low.size).trans hset)), ?_, ?_, fun k hk => ?_⟩
  · exact (Turn.of_below (B := 0) (hdr _)).boxed (Boxed.other' ((Turn.of_below (B := 0) hal).boxed h.box) (by omega) _ _)
  · refine TRow.congr (TRow.below (TRow.set (TRow.below h.head hal) b _) (hdr _)) fun k hk => ?_
    unfold upd
    by_cases e : k = b
    · simp [e]
    · by_cases e2 : k < b
      · have e3 : k < b + 1 := by omega
        simp [e, e2, e3]
      · have e3 : ¬ k < b + 1 := by omega
        simp [e, e2, e3]
  · by_cases e : k = b
    · subst e
      refine ⟨?_, by simp; omega⟩
      simp only [if_true]
      have hnew : BRowF (W.alloc (.cells (madeCells #[.bool false] rn) 4)) W.heap.size rn fun _ => false := by
        unfold BRowF TRow
        rw [heap_at _ _ _ rfl, valArr_made]
      exact TRow.below (TRow.other hnew (by omega)) (hdr _)
    · obtain ⟨h1, h2⟩ := h.rows k (by omega)
      simp only [if_neg e]
      exact ⟨TRow.below (TRow.other (TRow.below h1 hal) (by omega)) (hdr _), h2⟩
/-- The headers of a program's blocks. -/
theorem blk_hd {w : World} {bl : Option Addr} {ls : List (List Cd)} (h : BlkIn w bl ls) (h0 : 1 ≤ ls.length) : ∃ hd : Nat → Value, (∀ k, ∃ a n c, hd k = .slice a n c) ∧ ValsIn w bl ls.length hd ∧ ∀ k, k < ls.length → ∃ a c, hd k = .slice a (atB ls k).length c ∧ CdsIn w a (atB ls k) := by
  obtain ⟨b, off, _, _, rfl, _, _⟩ := h 0 h0
  refine ⟨fun k => if k < ls.length then (w.cell? ⟨b, off + k, none⟩).getD (.slice none 0 0) else .slice none 0 0, fun k => ?_, fun k hk => ?_, fun k hk => ?_⟩
  · by_cases hk : k < ls.length
    · obtain ⟨b', off', a, c, e, hc, _⟩ := h k hk
      cases e
      simp only [if_pos hk, hc]
      exact ⟨a, _, c, rfl⟩
    · simp only [if_neg hk]; exact ⟨none, 0, 0, rfl⟩
  · obtain ⟨b', off', a, c, e, hc, _⟩ := h k hk
    cases e
    refine ⟨b, off, rfl, ?_⟩
    simp only [if_pos hk, hc]; rfl
  · obtain ⟨b', off', a, c, e, hc, hi⟩ := h k hk
    cases e
    simp only [if_pos hk, hc]
    exact ⟨a, c, rfl, hi⟩
def rowM (wr : World) (q : Nat) : Nat → Nat
  | 0 => 0
  | k + 1 => rowM wr q k + match wr.cell? ⟨q, k, none⟩ with
    | some (.bool true) => 0
    | _ => 1
def cntM (wr : World) (ib rn : Nat) : Nat → Nat
  | 0 => 0
  | b + 1 => cntM wr ib rn b + match wr.cell? ⟨ib, b, none⟩ with
    | some (.slice (some p) _ _) => rowM wr p.block rn
    | _ => 0
theorem rowM_is {wr : World} {q n : Nat} {S : Nat → Bool} (h : BRowF wr q n S) : ∀ {k}, k ≤ n → rowM wr q k = unseen S k
  | 0, _ => rfl
  | k + 1, hk => by
    unfold rowM unseen
    rw [rowM_is h (by omega), TRow.cell h (show k < n by omega)]
    cases S k <;> rfl
theorem cntM_is {wr : World} {ib n rn : Nat} {g : Nat → Nat} {S : Nat → Nat → Bool} (h : InRows wr ib n rn g S) : ∀ {b}, b ≤ n → cntM wr ib rn b = cntB S rn b
  | 0, _ => rfl
  | b + 1, hb => by
    unfold cntM cntB
    rw [cntM_is h (by omega), TRow.cell h.head (show b < n by omega)]
    simp only
    rw [rowM_is (h.rows b (by omega)) (Nat.le_refl _)]
def muAg (ib n rn : Nat) (a : Act) (wr : World) : Nat := 2 * cntM wr ib rn n + match a.tmps.getD 7 undef with
  | .pointer (some p) => (match wr.cell? p with
    | some (.bool true) => 1
    | _ => 0)
  | _ => 0
/-- How the rows stand while a pass goes on. -/
structure RgI (w1 : World) (ls : List (List Cd)) (rn Ag : Nat) (Ds : List Nat) (S0 : Nat → Nat → Bool) (k : Nat) (S : Nat → Nat → Bool) (g : Nat → Nat) (ag : Bool) (W : World) : Prop where
  low : Below w1.heap.size w1 W
  box : Boxed W (w1.heap.size + 1) 101 (.slice (some ⟨w1.heap.size, 0, none⟩) ls.length ls.length)
  rows : InRows W w1.heap.size ls.length rn g S
  apart : ∀ b, b < ls.length → w1.heap.size + 1 < g b ∧ g b ≠ Ag
  agc : Boxed W Ag 4 (.bool ag)
  agb : w1.heap.size + 1 < Ag
  mks : MarksIn (w1.heap.size + 2) W Ds
  pass : PassI ls rn S0 S k ag
def RgS (w1 : World) (ls : List (List Cd)) (rn Ag : Nat) (Ds : List Nat) (S0 : Nat → Nat → Bool) (k : Nat) (W : World) : Prop := ∃ S g ag, RgI w1 ls rn Ag Ds S0 k S g ag W
theorem RgI.turn {w1 : World} {ls : List (List Cd)} {rn Ag : Nat} {Ds : List Nat} {S0 : Nat → Nat → Bool} {k : Nat} {S : Nat → Nat → Bool} {g : Nat → Nat} {ag : Bool} {B : Nat} {W W' : World} (h : RgI w1 ls rn Ag Ds S0 k S g ag W) (ht : Turn B W W') (hB : w1.heap.size ≤ B) (hD : ∀ D ∈ Ds, D < B) : RgI w1 ls rn Ag Ds S0 k S g ag W' :=
  ⟨ht.below h.low hB h.low.size, ht.boxed h.box, ⟨TRow.turn h.rows.head ht, fun b hb => TRow.turn (h.rows.rows b hb) ht⟩, h.apart, ht.boxed h.agc, h.agb, ⟨h.mks.nodup, fun D hD' => ⟨(h.mks.shut D hD').1, (ht.block D _ (h.mks.shut D hD').2 (.inl (hD D hD'))).trans (h.mks.shut D hD').2⟩⟩, h.pass⟩
theorem RgI.below {w1 : World} {ls : List (List Cd)} {rn Ag : Nat} {Ds : List Nat} {S0 : Nat → Nat → Bool} {k : Nat} {S : Nat → Nat → Bool} {g : Nat → Nat} {ag : Bool} {W W' : World} (h : RgI w1 ls rn Ag Ds S0 k S g ag W) (hb : Below W.heap.size W W') : RgI w1 ls rn Ag Ds S0 k S g ag W' :=
  h.turn (Turn.of_below (B := W.heap.size) hb) h.low.size fun D hD => lt_of_block (h.mks.shut D hD).2
/-- How things stand at the head of the loop that goes on as long as something turns. -/
structure AgI (w1 : World) (ls : List (List Cd)) (rn Ag : Nat) (Ds : List Nat) (S : Nat → Nat → Bool) (g : Nat → Nat) (ag : Bool) (W : World) : Prop where
  rg : RgI w1 ls rn Ag Ds S 0 S g false (W.setCell ⟨Ag, 0, none⟩ (.bool false))
  agc : Boxed W Ag 4 (.bool ag)
  low : Below w1.heap.size w1 W
  box : Boxed W (w1.heap.size + 1) 101 (.slice (some ⟨w1.heap.size, 0, none⟩) ls.length ls.length)
  rows : InRows W w1.heap.size ls.length rn g S
  mks : MarksIn (w1.heap.size + 2) W Ds
  fix : ag = false → ∀ b r : Nat, b < ls.length → r < rn → (S b r = true ↔ LiveR ls r b)
theorem AgI.make {w1 : World} {ls : List (List Cd)} {rn Ag : Nat} {Ds : List Nat} {S : Nat → Nat → Bool} {g : Nat → Nat} {ag : Bool} {W : World} (agc : Boxed W Ag 4 (.bool ag)) (agb : w1.heap.size + 1 < Ag) (low : Below w1.heap.size w1 W) (box : Boxed W (w1.heap.size + 1) 101 (.slice (some ⟨w1.heap.size, 0, none⟩) ls.length ls.length))
    (rows : InRows W w1.heap.size ls.length rn g S) (apart : ∀ b, b < ls.length → w1.heap.size + 1 < g b ∧ g b ≠ Ag) (mk : MarksIn (w1.heap.size + 2) W Ds) (pass : PassI ls rn S S 0 false) (fix : ag = false → ∀ b r : Nat, b < ls.length → r < rn → (S b r = true ↔ LiveR ls r b)) : AgI w1 ls rn Ag Ds S g ag W := by
  refine ⟨⟨low.trans ((Below.refl _ _).setCell (p := ⟨Ag, 0, none⟩) (by show w1.heap.size ≤ Ag; omega) _), Boxed.other' box (by omega) _ _, ⟨TRow.other rows.head (by omega), fun b hb => TRow.other (rows.rows b hb) (apart b hb).2⟩, apart, agc.set _, agb, ⟨mk.nodup, fun D hD => ⟨(mk.shut D hD).1, ?_⟩⟩, pass⟩, agc, low, box, rows, mk, fix⟩
  have h := (mk.shut D hD).2
  rw [Below.heap_setCell _ _ _ _ (show D ≠ Ag from fun e => by subst e; rw [show W.heap[D]? = _ from agc] at h; cases h)]
  exact h
theorem ag_first {w1 : World} {ls : List (List Cd)} {rn : Nat} {g : Nat → Nat} {W : World} (h : MkI w1 ls.length rn ls.length g W) : AgI w1 ls rn W.heap.size [] (fun _ _ => false) g true (W.alloc (.cells #[.bool true] 4)) := by
  have hal := (Below.refl W.heap.size W).alloc (Nat.le_refl _) (.cells #[.bool true] 4)
  have hbx : w1.heap.size + 1 < W.heap.size := lt_of_block h.box
  refine AgI.make (Boxed.new W _ _) hbx (h.low.trans (hal.mono h.low.size)) ((Turn.of_below (B := 0) hal).boxed h.box) ⟨?_, fun b hb => TRow.below (h.rows b hb).1 hal⟩ (fun b hb => ⟨(h.rows b hb).2, fun e => ?_⟩) ⟨List.nodup_nil, fun D hD => by cases hD⟩ (PassI.first ls rn _ fun _ _ _ _ => rfl) (fun e => by cases e)
  · exact TRow.congr (TRow.below h.head hal) fun k hk => by simp [hk]
  · have := TRow.lt (h.rows b hb).1
    omega
theorem RgI.put {w1 : World} {ls : List (List Cd)} {rn Ag : Nat} {Ds : List Nat} {S0 : Nat → Nat → Bool} {k k2 : Nat} {S S2 : Nat → Nat → Bool} {g : Nat → Nat} {ag : Bool} {ag2 : Bool} {W : World} {q j : Nat} {N : Nat → Bool} (h : RgI w1 ls rn Ag Ds S0 k S g ag W) (hq : w1.heap.size + 1 < q) (hqa : q ≠ Ag) (hrow : BRowF W q rn N)
    (hS : ∀ b, b ≠ j → S2 b = S b) (hN : ∀ r, r < rn → N r = S2 j r) (hp : PassI ls rn S0 S2 k2 ag2) : RgI w1 ls rn Ag Ds S0 k2 S2 (fun b => if b = j then q else g b) ag2 ((W.setCell ⟨Ag, 0, none⟩ (.bool ag2)).setCell ⟨w1.heap.size, j, none⟩ (.slice (some ⟨q, 0, none⟩) rn rn)) := by
  have hag := h.agb
  refine ⟨(h.low.trans ((Below.refl _ _).setCell (p := ⟨Ag, 0, none⟩) (by show w1.heap.size ≤ Ag; omega) _)).trans ((Below.refl _ _).setCell (p := ⟨w1.heap.size, j, none⟩) (Nat.le_refl _) _), Boxed.other' (Boxed.other' h.box (by omega) _ _) (by omega) _ _, ⟨?_, fun b hb => ?_⟩, fun b hb => ?_, Boxed.other' (h.agc.set _) (by omega) _ _, hag, ⟨h.mks.nodup, fun D hD => ⟨(h.mks.shut D hD).1, ?_⟩⟩, hp⟩
  · refine TRow.congr (TRow.set (TRow.other h.rows.head (by omega)) j _) fun b hb => ?_
    unfold upd
    by_cases e : b = j <;> simp [e]
  · by_cases e : b = j
    · subst e
      simp only [if_true]
      exact BRowF.congr (TRow.other (TRow.other hrow hqa) (by omega)) hN
    · simp only [if_neg e]
      have h1 := (h.apart b hb).1
      rw [hS b e]
      exact TRow.other (TRow.other (h.rows.rows b hb) (h.apart b hb).2) (by omega)
  · by_cases e : b = j
    · simp only [if_pos e]; exact ⟨hq, hqa⟩
    · simp only [if_neg e]; exact h.apart b hb
  · have h1 := (h.mks.shut D hD).1
    have h2 := (h.mks.shut D hD).2
    rw [Below.heap_setCell _ _ _ _ (show D ≠ w1.heap.size by omega), Below.heap_setCell _ _ _ _ (show D ≠ Ag from fun e => by subst e; rw [show W.heap[D]? = _ from h.agc] at h2; cases h2)]
    exact h2
theorem ag_next {w1 : World} {ls : List (List Cd)} {rn Ag D : Nat} {Ds : List Nat} {S0 S : Nat → Nat → Bool} {g : Nat → Nat} {ag : Bool} {W : World} (h : RgI w1 ls rn Ag Ds S0 ls.length S g ag W) (hK : W.heap[D]? = some (.deferred (some []))) (hD : w1.heap.size + 2 ≤ D) (hn : ∀ E ∈ Ds, E < D) : AgI w1 ls rn W.heap.size (D :: Ds) S g ag (W.alloc (.cells #[.bool ag] 4)) := by
  have hal := (Below.refl W.heap.size W).alloc (Nat.le_refl _) (.cells #[.bool ag] 4)
  have hbx : w1.heap.size + 1 < W.heap.size := lt_of_block h.box
  refine AgI.make (Boxed.new W _ _) hbx (h.low.trans (hal.mono h.low.size)) ((Turn.of_below (B := 0) hal).boxed h.box) (h.rows.below hal) (fun b hb => ⟨(h.apart b hb).1, fun e => ?_⟩) ⟨List.nodup_cons.2 ⟨fun hm => by have := hn D hm; omega, h.mks.nodup⟩, fun E hE => ?_⟩ h.pass.start (fun e b r hb hr => ?_)
  · have := TRow.lt (h.rows.rows b hb)
    omega
  · rcases List.mem_cons.1 hE with rfl | hE
    · exact ⟨hD, (hal.block E (lt_of_block hK)).trans hK⟩
    · have h2 := (h.mks.shut E hE)
      exact ⟨h2.1, (hal.block E (lt_of_block h2.2)).trans h2.2⟩
  · subst e
    exact h.pass.fix hb hr
theorem mu_is {w1 : World} {ls : List (List Cd)} {rn Ag : Nat} {Ds : List Nat} {S : Nat → Nat → Bool} {g : Nat → Nat} {ag : Bool} {W : World} {a : Act} (h : AgI w1 ls rn Ag Ds S g ag W) (ha : a.tmps.getD 7 undef = .pointer (some ⟨Ag, 0, none⟩)) : muAg w1.heap.size ls.length rn a W = 2 * cntB S rn ls.length + if ag then 1 else 0 := by
  unfold muAg
  rw [cntM_is h.rows (Nat.le_refl _), ha]
  simp only [h.agc.cell]
  cases ag <;> rfl
theorem mu_less {ls : List (List Cd)} {rn k : Nat} {S0 S : Nat → Nat → Bool} {ag : Bool} (h : PassI ls rn S0 S k ag) : (2 * cntB S rn ls.length + if ag then 1 else 0) < 2 * cntB S0 rn ls.length + 1 := by
  cases ag
  · have := cntB_le (S := S0) (S' := S) (regs := rn) (n := ls.length) h.mono
    simp; omega
  · have := h.less
    simp; omega
theorem RowsOwn.turn {B : Nat} {w w' : World} {base : Nat} {v : Value} {L : List (List Int)} (h : RowsOwn w base v L) (ht : Turn B w w') : RowsOwn w' base v L := by
  obtain ⟨vals, ho, hr⟩ := h
  refine ⟨vals, ht.owns ho, fun k hk => ?_⟩
  obtain ⟨a, cap, h1, h2, h0, h3, h4⟩ := hr k hk
  exact ⟨a, cap, h1, h2, h0, ht.ints h3, fun b off e => ⟨(h4 b off e).1, Nat.lt_of_lt_of_le (h4 b off e).2.1 ht.size, (h4 b off e).2.2⟩⟩
theorem MarksIn.below {B : Nat} {W W' : World} {Ds : List Nat} (h : MarksIn B W Ds) (hb : Below W.heap.size W W') : MarksIn B W' Ds := ⟨h.nodup, fun D hD => ⟨(h.shut D hD).1, (hb.block D (lt_of_block (h.shut D hD).2)).trans (h.shut D hD).2⟩⟩
end Go.Proofs.Ytjfpaelmcepidaa.PK
