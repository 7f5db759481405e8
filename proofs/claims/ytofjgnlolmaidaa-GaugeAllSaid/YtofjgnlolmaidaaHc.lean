/- The reference's Put. -/
import Derived.Test.YtofjgnlolmaidaaHa
import Derived.Deep.CutBlock
import Derived.Deep.DeepCutAuto
import Derived.BigQuiet
namespace Go.Proofs.Ytofjgnlolmaidaa
set_option linter.unusedVariables false
open Go.RowKit
attribute [local go_sem ↓] Go.wp_at_zero Go.wp_at_succ
attribute [local go_sem] run_store_float run_fop_add run_fop_sub run_fop_mul run_fop_quo

def lessB (g : Gau) (x : Nat) : Bool := decide (g.count = 0 ∨ key x < key g.least)
def moreB (g : Gau) (x : Nat) : Bool := decide (g.count = 0 ∨ key g.greatest < key x)

set_option maxRecDepth 100000 in
set_option maxHeartbeats 4000000 in
theorem refput33 {w : World} {b bc bb : Nat} {g : Gau} {x : Nat} {B : Int} (h : RefG w b bc bb g) (hs : Sane g B) (hB : B ≤ 1000000000) (hx : x < 18446744073709551616) :
    Calls Try.prog 33 #[.pointer (some ⟨b, 0, none⟩), .float .f64 x] w fun e w' => e = .returned (.tuple #[]) ∧ RefG w' b bc bb (put g x) ∧ Chg [b, bc] w w' := by
  by_cases hn : Fl.num x
  · have NN := Lib.hid (nan_no hn hx)
    have HN := Lib.hid hn
    obtain ⟨sl, cap, h1, hsl⟩ := h.c1
    have HSL := Lib.hid hsl
    have BN := Lib.hid h.bnd
    have CP := Lib.hid (fun (k : Nat) (hk : k < g.n) w => compare40 hx (hs.wide k hk) w)
    have n64 := hs.n64
    have HH := Lib.hid h
    have SS := Lib.hid hs
    have CL := Lib.hid (fun w => compare40 hx hs.le w)
    have CG := Lib.hid (fun w => compare40 hx hs.gr w)
    clear h hs hn hsl
    go_enter Try.func33, Try.ntmps33
    go_upto_block 0 with (go_at_call 48; refine (NN.out _).mono ?_; rintro e w' ⟨rfl, rfl⟩)
    go_cut [4] (fun v wx => ∃ c : Nat, v = .int .i64 c ∧ IxIs g x c ∧ wx = w)
    case first =>
      go_wp2_with fail
      go_loop [4] (fun i => ∃ k : Nat, k ≤ g.n ∧ i = .int .i64 k ∧ (∀ t, t < k → key (g.bs t) < key x)) (fun i => g.n - (intOf i).toNat)
      case atStart => exact ⟨0, Nat.zero_le _, rfl, fun t ht => absurd ht (Nat.not_lt_zero t)⟩
      case round =>
        obtain ⟨k, hk, rfl, hlo⟩ := hrel
        have LO := Lib.hid hlo
        clear hlo
        by_cases hlt : k < g.n
        · have e1 := HSL.out k hlt
          subst e1
          have hbk := BN.out k hlt
          have cp := CP.out k hlt
          have q2 := cmpN_gt (key x) (key (g.bs k))
          generalize cmpN (key x) (key (g.bs k)) = c2 at cp q2
          have CC := Lib.hid cp
          clear cp
          by_cases hc : key (g.bs k) < key x
          · rw [decide_eq_true hc] at q2
            have HC := Lib.hid hc
            clear hc
            go_wp2_with (go_at_call 40; refine (CC.out _).mono ?_; rintro e w' ⟨rfl, rfl⟩)
            go_round
            case rel =>
              refine ⟨k + 1, by omega, by go_num, fun t ht => ?_⟩
              by_cases htk : t = k
              · rw [htk]; exact HC.out
              · exact LO.out t (by omega)
            case measure => simp [intOf]; omega
          · rw [decide_eq_false hc] at q2
            have HC := Lib.hid hc
            clear hc
            go_wp2_with (go_at_call 40; refine (CC.out _).mono ?_; rintro e w' ⟨rfl, rfl⟩)
            go_meet
            exact ⟨k, rfl, ⟨hk, LO.out, fun t h1 h2 => Nat.le_trans (Nat.not_lt.1 HC.out) (SS.out.fit.le h1 h2)⟩, rfl⟩
        · go_wp2_with fail
          go_meet
          exact ⟨k, rfl, ⟨hk, LO.out, fun t h1 h2 => by omega⟩, rfl⟩
    case rest =>
      obtain ⟨c, rfl, hix, rfl⟩ := hcut
      have HIX := Lib.hid hix
      have hcn := hix.1
      obtain ⟨cap2, h2⟩ := HH.out.c2
      have hck := HH.out.cel c hcn
      have fck := HH.out.fc c
      have i2 : 0 ≤ g.cs c := SS.out.s0 c hcn
      have i3 : g.cs c ≤ B := SS.out.s1 c hcn
      have i4 := wrap_succ i2 i3 hB
      clear hix
      go_upto_region 6 with (fail)
      have eq1 : (fun i => if i = c then g.cs c + 1 else g.cs i) = (fun i => if i = ix g x then g.cs i + 1 else g.cs i) := by
        funext i; rw [ix_is HIX.out]; split
        · rename_i e; rw [e]
        · rfl
      have hG1 := HH.out.setc c (g.cs c + 1) hcn
      rw [eq1] at hG1
      have hC1 := (Chg.refl [b, bc] wc).setCell (p := ⟨bc, c, none⟩) (.inl (by simp)) (.int .i64 (g.cs c + 1))
      clear h1 h2 hck fck i2 i3 i4 eq1 HH
      generalize wc.setCell ⟨bc, c, none⟩ (.int .i64 (g.cs c + 1)) = w1 at *
      have k3 := hG1.c3
      have k5 := hG1.c5
      simp only at k3 k5
      have HG1 := Lib.hid hG1
      have HC1 := Lib.hid hC1
      have b1 := SS.out.c0
      have b2 := SS.out.c1
      clear hG1 hC1
      go_cut [63] (fun v wx => v = .bool (lessB g x) ∧ wx = w1)
      case first =>
        by_cases z : g.count = 0
        · have z' : (g.count == 0) = true := by rw [z]; rfl
          have H : Hid (lessB g x = true) := Lib.hid (decide_eq_true (.inl z))
          clear z
          go_wp2_with fail
          go_meet
          exact ⟨by rw [H.out], rfl⟩
        · have z' : (g.count == 0) = false := by simpa using z
          have H : Hid (lessB g x = decide (key x < key g.least)) := Lib.hid (by unfold lessB; simp [z])
          have q1 := cmpN_lt (key x) (key g.least)
          rw [← H.out] at q1
          clear z
          generalize cmpN (key x) (key g.least) = c1 at CL q1
          generalize lessB g x = L at *
          go_wp2_with (go_at_call 40; refine (CL.out _).mono ?_; rintro e w' ⟨rfl, rfl⟩)
          go_meet
          exact ⟨rfl, rfl⟩
      case rest =>
        obtain ⟨rfl, rfl⟩ := hcut
        clear CL
        have f5 := HG1.out.fz 4
        have lb1 := HG1.out.lb
        go_upto_if 63 with (fail)
        go_cut [] (fun wx => RefG wx b bc bb { g with cs := fun i => if i = ix g x then g.cs i + 1 else g.cs i, least := leastOf g x } ∧ Chg [b] wc wx)
        case first =>
          cases hL : lessB g x
          · have H : Hid (leastOf g x = g.least) := Lib.hid (if_neg (of_decide_eq_false hL))
            go_wp2_with fail
            go_meet
            rw [H.out]
            exact ⟨HG1.out, Chg.refl _ _⟩
          · have H : Hid (leastOf g x = x) := Lib.hid (if_pos (of_decide_eq_true hL))
            go_wp2_with fail
            go_meet
            rw [H.out]
            exact ⟨HG1.out.set5 x, (Chg.refl _ _).setCell (.inl (by simp)) _⟩
        case rest =>
          obtain ⟨hG2, hC2⟩ := hcut
          have HG2 := Lib.hid hG2
          have HC2 := Lib.hid (HC1.out.trans (hC2.mono (by simp)))
          have k3 : wc.cell? ⟨b, 2, none⟩ = some (.int .i64 g.count) := hG2.c3
          have k6 : wc.cell? ⟨b, 5, none⟩ = some (.float .f64 g.greatest) := hG2.c6
          have f6 := hG2.fz 5
          clear hG2 hC2 HG1 HC1 f5 k5
          go_upto_region 8 with (fail)
          go_cut [84] (fun v wx => v = .bool (moreB g x) ∧ wx = wc)
          case first =>
            by_cases z : g.count = 0
            · have z' : (g.count == 0) = true := by rw [z]; rfl
              have H : Hid (moreB g x = true) := Lib.hid (decide_eq_true (.inl z))
              clear z
              go_wp2_with fail
              go_meet
              exact ⟨by rw [H.out], rfl⟩
            · have z' : (g.count == 0) = false := by simpa using z
              have H : Hid (moreB g x = decide (key g.greatest < key x)) := Lib.hid (by unfold moreB; simp [z])
              have q1 := cmpN_gt (key x) (key g.greatest)
              rw [← H.out] at q1
              clear z
              generalize cmpN (key x) (key g.greatest) = c1 at CG q1
              generalize moreB g x = L at *
              go_wp2_with (go_at_call 40; refine (CG.out _).mono ?_; rintro e w' ⟨rfl, rfl⟩)
              go_meet
              exact ⟨rfl, rfl⟩
          case rest =>
            obtain ⟨rfl, rfl⟩ := hcut
            clear CG
            go_upto_if 84 with (fail)
            rename_i ww _
            go_cut [] (fun wx => RefG wx b bc bb { g with cs := fun i => if i = ix g x then g.cs i + 1 else g.cs i, least := leastOf g x, greatest := greatestOf g x } ∧ Chg [b] wc wx)
            case first =>
              cases hL : moreB g x
              · have H : Hid (greatestOf g x = g.greatest) := Lib.hid (if_neg (of_decide_eq_false hL))
                go_wp2_with fail
                go_meet
                rw [H.out]
                exact ⟨HG2.out, Chg.refl _ _⟩
              · have H : Hid (greatestOf g x = x) := Lib.hid (if_pos (of_decide_eq_true hL))
                go_wp2_with fail
                go_meet
                rw [H.out]
                exact ⟨HG2.out.set6 x, (Chg.refl _ _).setCell (.inl (by simp)) _⟩
            case rest =>
              obtain ⟨hG3, hC3⟩ := hcut
              have HG3 := Lib.hid hG3
              have HC3 := Lib.hid (HC2.out.trans (hC3.mono (by simp)))
              have k3 : wc.cell? ⟨b, 2, none⟩ = some (.int .i64 g.count) := hG3.c3
              have f3 := hG3.fz 2
              clear hG3 hC3 HG2 HC2 f6 k6
              go_upto_region 11 with (fail)
              have hG4 := HG3.out.set3 (g.count + 1)
              have HC4 := Lib.hid (HC3.out.setCell (p := ⟨b, 2, none⟩) (.inl (by simp)) (.int .i64 (g.count + 1)))
              clear k3 f3 HG3 HC3
              simp only at hG4
              generalize wc.setCell ⟨b, 2, none⟩ (.int .i64 (g.count + 1)) = w4 at *
              have k3 := hG4.c3
              have k7 := hG4.c7
              have f7 := hG4.fz 6
              simp only at k3 k7
              have HG4 := Lib.hid hG4
              clear hG4
              go_wp2_with (go_at_call 49; refine (refcanon_any (fopR_lt _ _ _ _) _).mono ?_; rintro e w' ⟨rfl, rfl⟩)
              go_end0
              refine ⟨rfl, ?_, ?_⟩
              · rw [put_num HN.out, canon_mean]
                exact (HG4.out.drewN _).set7 _
              · exact (HC4.out.drewN _).setCell (.inl (by simp)) _
  · have NN := Lib.hid (nan_yes hn hx)
    have e1 := Lib.hid (put_nan (g := g) hn)
    have h4 := h.c4
    have f4 := h.fz 3
    have b1 := hs.n0
    have b2 := hs.n1
    have HH := Lib.hid h
    clear h hs hn
    go_enter Try.func33, Try.ntmps33
    go_wp2_with (go_at_call 48; refine (NN.out _).mono ?_; rintro e w' ⟨rfl, rfl⟩)
    refine bodyPost_ret (results_none rfl _ _ _) rfl ⟨rfl, ?_, (Chg.refl _ _).setCell (.inl (by simp)) _⟩
    rw [e1.out]
    exact HH.out.set4 _
end Go.Proofs.Ytofjgnlolmaidaa
