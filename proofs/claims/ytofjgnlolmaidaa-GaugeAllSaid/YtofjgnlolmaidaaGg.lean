/- The walks through widen and Put. -/
import Derived.Test.YtofjgnlolmaidaaGf
import Derived.Deep.CutBlock
import Derived.Deep.DeepCutAuto
namespace Go.Proofs.Ytofjgnlolmaidaa
set_option linter.unusedVariables false
open Go.RowKit
attribute [local go_sem ↓] Go.wp_at_zero Go.wp_at_succ
attribute [local go_sem] run_store_float run_fop_add run_fop_sub run_fop_mul run_fop_quo

theorem cmpN_lt (a b : Nat) : decide (cmpN a b < 0) = decide (a < b) := by
  unfold cmpN
  by_cases h : a < b
  · rw [if_pos h, decide_eq_true h]; rfl
  · rw [if_neg h, decide_eq_false h]; split <;> rfl
theorem cmpN_gt (a b : Nat) : decide (0 < cmpN a b) = decide (b < a) := by
  unfold cmpN
  by_cases h : a < b
  · rw [if_pos h, decide_eq_false (by omega : ¬ b < a)]; rfl
  · rw [if_neg h]
    by_cases h2 : b < a
    · rw [if_pos h2, decide_eq_true h2]; rfl
    · rw [if_neg h2, decide_eq_false h2]; rfl

def widenL (g : Gau) (l : Nat) : Nat := if g.count = 0 ∨ key l < key g.least then l else g.least
def widenG (g : Gau) (m : Nat) : Nat := if g.count = 0 ∨ key g.greatest < key m then m else g.greatest

theorem addr_ne {b o o' : Nat} (h : o ≠ o') : (⟨b, o, none⟩ : Addr) ≠ ⟨b, o', none⟩ := fun e => h (congrArg Addr.off e)

set_option maxHeartbeats 2000000 in
theorem widen53 {w : World} {b bc bb : Nat} {g : Gau} {l m : Nat} (h : GaugeAt w b bc bb g) (hle : g.least < 18446744073709551616) (hgr : g.greatest < 18446744073709551616) (hl : l < 18446744073709551616) (hm : m < 18446744073709551616) :
    Calls Try.prog 53 #[.pointer (some ⟨b, 0, none⟩), .float .f64 l, .float .f64 m] w fun e w' => e = .returned (.tuple #[]) ∧ GaugeAt w' b bc bb { g with least := widenL g l, greatest := widenG g m } ∧ Chg [b] w w' := by
  have C1 := Lib.hid (fun w => compare50 hl hle w)
  have C2 := Lib.hid (fun w => compare50 hm hgr w)
  have h3 := h.c3
  have h5 := h.c5
  have h6 := h.c6
  have f5 := h.fz 5
  have f6 := h.fz 6
  have HH := Lib.hid h
  have hb := h.lb
  have q1 := cmpN_lt (key l) (key g.least)
  have q2 := cmpN_gt (key m) (key g.greatest)
  generalize cmpN (key l) (key g.least) = c1 at C1 q1
  generalize cmpN (key m) (key g.greatest) = c2 at C2 q2
  clear h hle hgr hl hm
  by_cases z : g.count = 0
  · have z' : (g.count == 0) = true := by rw [z]; rfl
    have e1 : Hid (widenL g l = l) := Lib.hid (if_pos (.inl z))
    have e2 : Hid (widenG g m = m) := Lib.hid (if_pos (.inl z))
    clear z q1 q2
    have h3' := (cell_other (w := w) (a := ⟨b, 5, none⟩) (.float .f64 l) (addr_ne (by decide))).trans h3
    have h6' := (cell_other (w := w) (a := ⟨b, 5, none⟩) (.float .f64 l) (addr_ne (by decide))).trans h6
    go_enter Try.func53, Try.ntmps53
    go_wp2_with fail
    go_end0
    refine ⟨rfl, ?_, (((Chg.refl [b] w).setCell (.inl (by simp)) _).setCell (.inl (by simp)) _)⟩
    rw [e1.out, e2.out]
    exact (HH.out.set5 l).set6 m
  · have z' : (g.count == 0) = false := by simpa using z
    by_cases k1 : key l < key g.least
    · rw [decide_eq_true k1] at q1
      have e1 : Hid (widenL g l = l) := Lib.hid (if_pos (.inr k1))
      have h3' := (cell_other (w := w) (a := ⟨b, 5, none⟩) (.float .f64 l) (addr_ne (by decide))).trans h3
      have h6' := (cell_other (w := w) (a := ⟨b, 5, none⟩) (.float .f64 l) (addr_ne (by decide))).trans h6
      by_cases k2 : key g.greatest < key m
      · rw [decide_eq_true k2] at q2
        have e2 : Hid (widenG g m = m) := Lib.hid (if_pos (.inr k2))
        clear z k1 k2
        go_enter Try.func53, Try.ntmps53
        go_wp2_with fail
        refine (C1.out _).mono ?_
        rintro e w' ⟨rfl, rfl⟩
        go_wp2_with fail
        refine (C2.out _).mono ?_
        rintro e w' ⟨rfl, rfl⟩
        go_wp2_with fail
        go_end0
        refine ⟨rfl, ?_, (((Chg.refl [b] w).setCell (.inl (by simp)) _).setCell (.inl (by simp)) _)⟩
        rw [e1.out, e2.out]
        exact (HH.out.set5 l).set6 m
      · rw [decide_eq_false k2] at q2
        have e2 : Hid (widenG g m = g.greatest) := Lib.hid (if_neg (fun hh => hh.elim z k2))
        clear z k1 k2
        go_enter Try.func53, Try.ntmps53
        go_wp2_with fail
        refine (C1.out _).mono ?_
        rintro e w' ⟨rfl, rfl⟩
        go_wp2_with fail
        refine (C2.out _).mono ?_
        rintro e w' ⟨rfl, rfl⟩
        go_wp2_with fail
        go_end0
        refine ⟨rfl, ?_, ((Chg.refl [b] w).setCell (.inl (by simp)) _)⟩
        rw [e1.out, e2.out]
        exact HH.out.set5 l
    · rw [decide_eq_false k1] at q1
      have e1 : Hid (widenL g l = g.least) := Lib.hid (if_neg (fun hh => hh.elim z k1))
      by_cases k2 : key g.greatest < key m
      · rw [decide_eq_true k2] at q2
        have e2 : Hid (widenG g m = m) := Lib.hid (if_pos (.inr k2))
        clear z k1 k2
        go_enter Try.func53, Try.ntmps53
        go_wp2_with fail
        refine (C1.out _).mono ?_
        rintro e w' ⟨rfl, rfl⟩
        go_wp2_with fail
        refine (C2.out _).mono ?_
        rintro e w' ⟨rfl, rfl⟩
        go_wp2_with fail
        go_end0
        refine ⟨rfl, ?_, ((Chg.refl [b] w).setCell (.inl (by simp)) _)⟩
        rw [e1.out, e2.out]
        exact HH.out.set6 m
      · rw [decide_eq_false k2] at q2
        have e2 : Hid (widenG g m = g.greatest) := Lib.hid (if_neg (fun hh => hh.elim z k2))
        clear z k1 k2
        go_enter Try.func53, Try.ntmps53
        go_wp2_with fail
        refine (C1.out _).mono ?_
        rintro e w' ⟨rfl, rfl⟩
        go_wp2_with fail
        refine (C2.out _).mono ?_
        rintro e w' ⟨rfl, rfl⟩
        go_wp2_with fail
        go_end0
        refine ⟨rfl, ?_, Chg.refl _ _⟩
        rw [e1.out, e2.out]
        exact HH.out
theorem put_nan {g : Gau} {x : Nat} (hx : ¬ Fl.num x) : put g x = { g with nans := g.nans + 1 } := if_neg hx

theorem put_num {g : Gau} {x : Nat} (hx : Fl.num x) : put g x = { g with cs := fun i => if i = ix g x then g.cs i + 1 else g.cs i, count := g.count + 1, least := leastOf g x, greatest := greatestOf g x, mean := meanPut g.mean x (g.count + 1) } := if_pos hx
theorem wrap_succ {a B : Int} (h0 : 0 ≤ a) (h1 : a ≤ B) (hB : B ≤ 1000000000) : IntKind.i64.wrap (a + 1) = a + 1 := by rw [IntKind.wrap_i64]; omega

set_option maxHeartbeats 4000000 in
theorem put29 {w : World} {b bc bb : Nat} {g : Gau} {x : Nat} {B : Int} (h : GaugeAt w b bc bb g) (hs : Sane g B) (hB : B ≤ 1000000000) (hx : x < 18446744073709551616) :
    Calls Try.prog 29 #[.pointer (some ⟨b, 0, none⟩), .float .f64 x] w fun e w' => e = .returned (.tuple #[]) ∧ GaugeAt w' b bc bb (put g x) ∧ Chg [b, bc] w w' := by
  by_cases hn : Fl.num x
  · have h1 := Fl.neq_self_num hn
    obtain ⟨cap2, h2⟩ := h.c2
    have h2d : w.drew.cell? ⟨b, 2, none⟩ = some (.slice (some ⟨bc, 0, none⟩) (g.n + 1) cap2) := h2
    have b1 := hs.c0
    have b2 := hs.c1
    have n64 := hs.n64
    have hlb := h.lb
    have hlc := h.lc
    have hne := h.ne
    have HH := Lib.hid h
    have SS := Lib.hid hs
    have CC := Lib.hid (cell52 (h.drewN 1) hs.fit hs.wide hx hs.n64)
    have HN := Lib.hid hn
    clear h hs hn h2
    go_enter Try.func29, Try.ntmps29
    go_upto_region 3 with (go_at_call 51; refine (there51 HH.out).mono ?_; rintro e w' ⟨rfl, rfl⟩)
    go_cut [] (fun wx => GaugeAt wx b bc bb { g with cs := fun i => if i = ix g x then g.cs i + 1 else g.cs i } ∧ Chg [b, bc] w wx)
    case first =>
      go_region_with (go_at_call 52; refine CC.out.mono ?_; rintro e w1 ⟨c, rfl, hix, hb1⟩; have s1 := (hb1.cell (p := ⟨b, 2, none⟩) hlb).trans h2d; have s2 := (hb1.cell (p := ⟨bc, c, none⟩) hlc).trans (HH.out.cel c hix.1); have s3 := (hb1.frozen (p := ⟨bc, c, none⟩) hlc).trans (HH.out.fc c); have i0 : (0 : Int) ≤ (c : Int) := Int.natCast_nonneg c; have i1 : (c : Int) < (g.n : Int) + 1 := Int.lt_add_one_of_le (Int.ofNat_le.2 hix.1); have i2 : 0 ≤ g.cs c := SS.out.s0 c hix.1; have i3 : g.cs c ≤ B := SS.out.s1 c hix.1; have i4 := wrap_succ i2 i3 hB)
      all_goals
        go_wp2_with fail
        go_meet
        have eq1 : (fun i => if i = ix g x then g.cs i + 1 else g.cs i) = (fun i => if i = c then g.cs c + 1 else g.cs i) := by
          funext i; rw [ix_is hix]; split
          · rename_i e; rw [e]
          · rfl
        rw [eq1]
        refine ⟨((HH.out.drewN 1).chg (Chg.of_below hb1 []) (by simp) (by simp) (by simp)).setc c (g.cs c + 1) hix.1, ?_⟩
        exact (((Chg.refl [b, bc] w).drew).trans (Chg.of_below hb1 _)).setCell (.inl (by simp)) _
    case rest =>
      obtain ⟨hg1, hch1⟩ := hcut
      have W := Lib.hid (widen53 hg1 SS.out.le SS.out.gr hx hx)
      clear hg1
      go_wp2_with fail
      refine W.out.mono ?_
      rintro e w2 ⟨rfl, hg2, hch2⟩
      clear W
      have h3 : w2.cell? ⟨b, 3, none⟩ = some (.int .i64 g.count) := hg2.c3
      have h7 : w2.cell? ⟨b, 7, none⟩ = some (.float .f64 g.mean) := hg2.c7
      have f3 := hg2.fz 3
      have f7 := hg2.fz 7
      have hg3 := hg2.set3 (g.count + 1)
      have h7' := (cell_other (w := w2) (a := ⟨b, 3, none⟩) (.int .i64 (g.count + 1)) (addr_ne (by decide))).trans h7
      have HG3 := Lib.hid hg3
      clear hg2 hg3
      go_upto_region 7 with (fail)
      have h3s := HG3.out.c3
      have h7s := HG3.out.c7
      have f7s := HG3.out.fz 7
      have hch3 := hch2.setCell (p := ⟨b, 3, none⟩) (.inl (by simp)) (.int .i64 (g.count + 1))
      simp only at h3s h7s
      generalize w2.setCell ⟨b, 3, none⟩ (.int .i64 (g.count + 1)) = w3 at *
      have k1 := g.count
      go_region_with (go_at_call 47; refine (canon_any _ _).mono ?_; rintro e w' ⟨rfl, rfl⟩)
      all_goals
        go_wp2_with fail
        go_end0
        refine ⟨rfl, ?_, (hch1.trans ((hch3.mono (by simp)).drewN _)).setCell (.inl (by simp)) _⟩
        rw [put_num HN.out, canon_mean]
        exact (HG3.out.drewN _).set7 _
  · have h1 := Fl.neq_self_nan hn
    have e1 := Lib.hid (put_nan (g := g) hn)
    have h4 := h.c4
    have f4 := h.fz 4
    have b1 := hs.n0
    have b2 := hs.n1
    have HH := Lib.hid h
    clear h hs hn
    go_enter Try.func29, Try.ntmps29
    go_wp2_with (go_at_call 51; refine (there51 HH.out).mono ?_; rintro e w' ⟨rfl, rfl⟩)
    refine bodyPost_ret (results_none rfl _ _ _) rfl ⟨rfl, ?_, (Chg.refl _ _).setCell (.inl (by simp)) _⟩
    rw [e1.out]
    exact HH.out.set4 _
end Go.Proofs.Ytofjgnlolmaidaa
