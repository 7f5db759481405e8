/- The walk through GaugeRanks. -/
import Derived.Test.YtofjgnlolmaidaaGo
import Derived.Test.YtofjgnlolmaidaaLs
import Derived.Deep.AppendLies
namespace Go.Proofs.Ytofjgnlolmaidaa
set_option linter.unusedVariables false
open Go.RowKit
attribute [local go_sem] run_store_float

def fls (k : Nat) : List Value := (List.range k).map fun j => Value.float .f64 (b64 j)
theorem fls_succ (k : Nat) : fls k ++ [Value.float .f64 (b64 k)] = fls (k + 1) := by simp [fls, List.range_succ]
theorem fls_get {k j : Nat} (h : j < k) : (fls k)[j]? = some (Value.float .f64 (b64 j)) := by simp [fls, h]
theorem below_own {B : Nat} {a w w' : World} {v : Value} {n : Nat} {xs : List Value} (h : Below B a w) (ho : w.ownsRow B 25 1 v n xs) (hg : w.grownBy w' v.ownBlock) (hB : B ≤ w.heap.size) : Below B a w' := by
  refine h.trans ⟨hg.os, hg.tape, hg.output, hg.size, fun k hk => hg.block k (by omega) (fun e => ?_)⟩
  have := ho.lt k e.symm
  omega

set_option maxRecDepth 100000 in
set_option maxHeartbeats 4000000 in
theorem ranks_walk (sl : Option Addr) (len cap : Nat) (ys : Nat → Nat) (part : Nat) (w : World) (hlen : (len : Int) ≤ 9223372036854775807) (hpart : part < 65536)
    (hsl : ∀ i, i < len → ∃ b off, sl = some ⟨b, off, none⟩ ∧ b < w.heap.size ∧ w.cell? ⟨b, off + i, none⟩ = some (.int .u8 (ys i : Nat))) :
    Calls Try.prog 7 #[.slice sl len cap, .int .u16 (part : Nat)] w fun e w' => e = .returned (.bool true) ∧ Below w.heap.size w w' := by
  obtain ⟨i0, hi, hz0, hz1, hz2⟩ := info_parts (show (Try.prog.info? 25).map (fun i => (i.zero, i.size, i.bytes)) = some (some (.float .f64 0), 1, 8) from by kernel_rfl)
  have HSL := Lib.hid hsl
  clear hsl
  go_enter Try.func7, Try.ntmps7
  go_wp2_with fail
  refine (begun24 _).mono ?_
  rintro e w1 ⟨rfl, hb1⟩
  go_wp2_with fail
  go_loopw [5, 6] (fun v i wr => ∃ k : Nat, k ≤ 64 ∧ i = .int .i64 k ∧ wr.ownsRow w1.heap.size 25 1 v k (fls k) ∧ Below w1.heap.size w1 wr) (fun _ i _ => 64 - (intOf i).toNat)
  case atStart => exact ⟨0, Nat.zero_le _, rfl, World.ownsRow_nil _ _ _ _, Below.refl _ _⟩
  case round =>
    obtain ⟨k, hk, rfl, hown, hbr⟩ := hrel
    by_cases hlt : k < 64
    · have hsz := hbr.size
      go_wp2_with (first
        | (at_builtin; refine wpList_append_own _ rfl _ _ 56 rfl w1.heap.size 25 i0 (.float .f64 0) 1 8 Try.underlying56 hi hz0 hz1 hz2 rfl (by decide) _ _ _ rfl (hown.alloc _) ⟨wr.heap.size, 0, none⟩ 1 1 [.float .f64 (floatOfInt .f64 (k : Int))] rfl rfl ?c1 ?c2 ?c3 ?c4 ?c5 ?_))
      case c1 =>
        intro j u hj
        match j, hj with
        | 0, hj => simp at hj; subst hj; simp [Addr.add]
      case c2 => intro u hu; simp at hu; subst hu; rfl
      case c3 => unfold maxLen; omega
      case c4 => omega
      case c5 => simp; omega
      · intro v' w4 hown' hgrow _
        rw [Fl.ofI_floatOfInt] at hown'
        have hb4 := below_own (hbr.alloc hbr.size _) (hown.alloc _) hgrow (by simp; omega)
        have hown2 : w4.ownsRow w1.heap.size 25 1 v' (k + 1) (fls (k + 1)) := by rw [← fls_succ]; exact hown'
        clear hown' hgrow hown hbr
        go_wp2_with fail
        go_roundw
        case rel => exact ⟨k + 1, by omega, by go_num, hown2, hb4⟩
        case measure => simp [intOf]; omega
    · have hk64 : k = 64 := by omega
      subst hk64
      clear hlt
      obtain ⟨g, gc, rfl, hgb, hgl⟩ := hown.form (by omega)
      have hcell : ∀ i, i < 64 → wr.cell? ⟨g, i, none⟩ = some (.float .f64 (b64 i)) := fun i hi => (hown.cellAt i (by omega)).trans (fls_get hi)
      have N := Lib.hid (new28 (some ⟨g, 0, none⟩) 64 gc b64 (by omega) wr b64_lt (fun i hi => ⟨g, 0, rfl, hgl, by rw [Nat.zero_add]; exact hcell i hi⟩) nofun)
      clear hown hcell
      have hsz := hbr.size
      have hB := hb1.trans (hbr.mono hb1.size)
      have hs1 := hb1.size
      clear hbr hb1
      go_wp2_with fail
      refine N.out.mono ?_
      clear N
      rintro e w2 (⟨_, b, bc, bb, rfl, hg, lb, lbc, lbb, hb2⟩ | ⟨hn, _⟩)
      · have hB2 := hB.trans (hb2.mono (by omega))
        have hs2 := hb2.size
        clear hb2 hB
        have hgB : b ∉ ([] : List Nat) := by simp
        by_cases hz : len = 0 ∨ 500 < len
        · have hz' : (len = 0) ∨ (¬ len = 0 ∧ 500 < len) := by omega
          clear hz
          rcases hz' with hz | ⟨hz, hz2⟩
          · subst hz
            go_wp2_with fail
            go_ret
            exact ⟨rfl, hB2⟩
          · have hzi : ¬ ((len : Int) = 0) := by omega
            have hzj : (500 : Int) < (len : Int) := by omega
            go_wp2_with fail
            go_ret
            exact ⟨rfl, hB2⟩
        · have hzi : ¬ ((len : Int) = 0) := by omega
          have hzj : ¬ (500 : Int) < (len : Int) := by omega
          have hcond : ((len : Int) == 0 || decide (500 < (len : Int))) = false := by simp; omega
          have l1 : 1 ≤ len := by omega
          have l2 : len ≤ 500 := by omega
          clear hz
          have hlow : w.heap.size ≤ b ∧ w.heap.size ≤ bc ∧ w.heap.size ≤ w2.heap.size := by have := hB2.size; omega
          obtain ⟨lo1, lo2, lo3⟩ := hlow
          have G0 := Lib.hid hg
          clear hg hgB lb lbc lbb hs2 hs1 hsz hgl hgb
          go_wp2_with fail
          clear hcond
          go_loopw [9] (fun i wr => ∃ k : Nat, k ≤ len ∧ i = .int .i64 k ∧ GaugeAt wr b bc bb (gk ys k) ∧ Chg [b, bc] w2 wr) (fun i _ => len - (intOf i).toNat)
          case atStart => exact ⟨0, Nat.zero_le _, rfl, G0.out, Chg.refl _ _⟩
          case round =>
            obtain ⟨k, hk, rfl, hgk, hch⟩ := hrel
            have hbel := hB2.trans (hch.below lo3 (by simp; omega))
            by_cases hlt : k < len
            · obtain ⟨cb, off, rfl, hbw, hcell⟩ := HSL.out k hlt
              have hcell' : wr.cell? ⟨cb, off + k, none⟩ = some (.int .u8 (ys k : Nat)) := (hbel.cell (p := ⟨cb, off + k, none⟩) hbw).trans hcell
              have hsn := gk_sane ys k
              have hv := Nat.mod_lt (ys k) (show 64 > 0 by omega)
              have P := Lib.hid (put29 hgk hsn (by omega) (b64_lt _ hv))
              have hm : Int.tmod ((ys k : Nat) : Int) 64 = ((ys k % 64 : Nat) : Int) := rfl
              have e64 : floatOfInt .f64 (((ys k : Nat) : Int) % 64) = b64 (ys k % 64) := by unfold b64; rw [Fl.ofI_floatOfInt]; rfl
              clear hcell
              go_wp2_with fail
              refine P.out.mono ?_
              clear P e64
              rintro e w4 ⟨rfl, hg4, hc4⟩
              go_wp2_with fail
              go_roundw
              case rel => exact ⟨k + 1, by omega, by go_num, hg4, hch.trans hc4⟩
              case measure => simp [intOf]; omega
            · have hkl : k = len := by omega
              subst hkl
              obtain ⟨q, j, hq, lq, hj, hQ, r1, r2, r3⟩ := ranks_law ys (k := part % (k + 1)) (n := k) (by have := Nat.mod_lt part (show k + 1 > 0 by omega); omega) l1 l2
              have hdiv := fun w => run_float_arith (P := Try.prog) w .quo 25 .f64 _ _ q hq
              have hmod : ((part % (k + 1) : Nat) : Int) = ((part : Nat) : Int) % ((k : Int) + 1) := by simp
              rw [← Fl.ofI_floatOfInt, ← Fl.ofI_floatOfInt, hmod] at hdiv
              have HM := Lib.hid hmod
              clear hmod hq
              have Q := Lib.hid (quantile30 (g := gk ys k) q hgk (gk_sane ys k) (by omega))
              rw [hQ] at Q
              clear hgk hch
              go_wp2_with fail
              refine Q.out.mono ?_
              clear Q hdiv
              rintro e w' ⟨rfl, rfl⟩
              go_wp2_with fail
              go_loop [13, 14, 15] (fun u v i => ∃ t : Nat, t ≤ k ∧ i = .int .i64 t ∧ u = .int .i64 (pre ys t j : Nat) ∧ v = .int .i64 (pre ys t (j + 1) : Nat)) (fun _ _ i => k - (intOf i).toNat)
              case atStart => exact ⟨0, Nat.zero_le _, rfl, rfl, rfl⟩
              case round =>
                obtain ⟨t, ht, rfl, rfl, rfl⟩ := hrel
                by_cases hlt : t < k
                · obtain ⟨cb, off, rfl, hbw, hcell⟩ := HSL.out t hlt
                  have hcell' : wr.cell? ⟨cb, off + t, none⟩ = some (.int .u8 (ys t : Nat)) := (hbel.cell (p := ⟨cb, off + t, none⟩) hbw).trans hcell
                  have hv := Nat.mod_lt (ys t) (show 64 > 0 by omega)
                  have e64 : floatOfInt .f64 (((ys t : Nat) : Int) % 64) = b64 (ys t % 64) := by unfold b64; rw [Fl.ofI_floatOfInt]; rfl
                  have kl := lt_small hv hj
                  have kle := le_small hv hj
                  have p1 : pre ys (t + 1) j = pre ys t j + (decide (ys t % 64 < j)).toNat := rfl
                  have p2 : pre ys (t + 1) (j + 1) = pre ys t (j + 1) + (decide (ys t % 64 < j + 1)).toNat := rfl
                  have q1 : pre ys t j ≤ t := cnt_le _ _
                  have q2 : pre ys t (j + 1) ≤ t := cnt_le _ _
                  clear hcell
                  generalize ys t % 64 = v at *
                  by_cases c1 : v < j
                  · have c2 : v < j + 1 := by omega
                    rw [decide_eq_true c1] at kl p1
                    rw [decide_eq_true c2] at kle p2
                    have P1 : Hid (pre ys (t + 1) j = pre ys t j + 1) := Lib.hid p1
                    have P2 : Hid (pre ys (t + 1) (j + 1) = pre ys t (j + 1) + 1) := Lib.hid p2
                    clear p1 p2 c1 c2
                    go_wp2_with fail
                    go_round
                    case rel => exact ⟨t + 1, by omega, by go_num, by rw [P1.out]; go_num, by rw [P2.out]; go_num⟩
                    case measure => simp [intOf]; omega
                  · rw [decide_eq_false c1] at kl p1
                    have P1 : Hid (pre ys (t + 1) j = pre ys t j) := Lib.hid p1
                    rw [kl, Bool.false_or] at kle
                    by_cases c2 : v < j + 1
                    · rw [decide_eq_true c2] at kle p2
                      have P2 : Hid (pre ys (t + 1) (j + 1) = pre ys t (j + 1) + 1) := Lib.hid p2
                      clear p1 p2 c1 c2
                      go_wp2_with fail
                      go_round
                      case rel => exact ⟨t + 1, by omega, by go_num, by rw [P1.out], by rw [P2.out]; go_num⟩
                      case measure => simp [intOf]; omega
                    · rw [decide_eq_false c2] at kle p2
                      have P2 : Hid (pre ys (t + 1) (j + 1) = pre ys t (j + 1)) := Lib.hid p2
                      clear p1 p2 c1 c2
                      go_wp2_with fail
                      go_round
                      case rel => exact ⟨t + 1, by omega, by go_num, by rw [P1.out], by rw [P2.out]⟩
                      case measure => simp [intOf]; omega
                · have htk : t = k := by omega
                  subst htk
                  have s1 : ((part : Nat) : Int) % ((t : Int) + 1) ≤ (pre ys t (j + 1) : Nat) := by rw [← HM.out]; omega
                  have s2 : ((pre ys t j : Nat) : Int) < (pre ys t (j + 1) : Nat) := by omega
                  have s3 : ((pre ys t j : Nat) : Int) ≤ ((part : Nat) : Int) % ((t : Int) + 1) := by rw [← HM.out]; omega
                  have s4 : ¬ ((part : Nat) : Int) % ((t : Int) + 1) < 0 := by rw [← HM.out]; omega
                  clear r1 r2 r3 HM
                  go_wp2_with fail
                  go_ret
                  exact ⟨rfl, hbel⟩
      · exact absurd b64_fit hn
end Go.Proofs.Ytofjgnlolmaidaa
