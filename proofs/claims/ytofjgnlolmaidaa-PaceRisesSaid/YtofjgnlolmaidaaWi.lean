/- The walk through PaceRises. -/
import Derived.Test.YtofjgnlolmaidaaWh
import Derived.Deep.CutBlock
import Derived.Deep.DeepCutAuto
namespace Go.Proofs.Ytofjgnlolmaidaa
set_option linter.unusedVariables false
open Go.RowKit
attribute [local go_sem] run_store_float

theorem cell_of_block {w : World} {b : Nat} {c : Array Value} {t : TypeId} {fr : Nat × Nat} (h : w.heap[b]? = some (.cells c t fr)) (i : Nat) : w.cell? ⟨b, i, none⟩ = c[i]? := by
  unfold World.cell?; simp [h]

theorem wantN_facts {most : Int} (h : 1 ≤ most) (s : Nat) : ¬ Fl.wantN most s < 1 ∧ ¬ most < Fl.wantN most s := by
  have := Fl.wantN_range (s := s) h; omega

/-- Which of the conditions of the second half is the first to hold. -/
theorem rises_cases (n m oN oB : Int) (x y : Nat) :
    (n < 0 ∨ (¬ n < 0 ∧ m < 0) ∨ (¬ n < 0 ∧ ¬ m < 0 ∧ 1099511627776 < n) ∨ (¬ n < 0 ∧ ¬ m < 0 ∧ ¬ 1099511627776 < n ∧ 1099511627776 < m) ∨ (¬ n < 0 ∧ ¬ m < 0 ∧ ¬ 1099511627776 < n ∧ ¬ 1099511627776 < m ∧ 1099511627776 < oN) ∨
      (¬ n < 0 ∧ ¬ m < 0 ∧ ¬ 1099511627776 < n ∧ ¬ 1099511627776 < m ∧ ¬ 1099511627776 < oN ∧ 1099511627776 < oB) ∨
      (¬ n < 0 ∧ ¬ m < 0 ∧ ¬ 1099511627776 < n ∧ ¬ 1099511627776 < m ∧ ¬ 1099511627776 < oN ∧ ¬ 1099511627776 < oB ∧ (Fl.ord y x == some .gt || Fl.ord y x == some .eq) = false ∧ (Fl.ord x x == some .eq) = true)) ∨
    ((¬ n < 0 ∧ ¬ m < 0 ∧ ¬ 1099511627776 < n ∧ ¬ 1099511627776 < m ∧ ¬ 1099511627776 < oN ∧ ¬ 1099511627776 < oB) ∧
      (((Fl.ord y x == some .gt || Fl.ord y x == some .eq) = true ∧ (!decide (Fl.num x)) = false ∧ Fl.val (age0 x) ≤ Fl.val (age0 y)) ∨
       ((Fl.ord y x == some .gt || Fl.ord y x == some .eq) = false ∧ (Fl.ord x x == some .eq) = false ∧ (!decide (Fl.num x)) = true ∧ Fl.val (age0 x) ≤ Fl.val (age0 0)))) := by
  by_cases c1 : n < 0
  · exact .inl (.inl c1)
  by_cases c2 : m < 0
  · exact .inl (.inr (.inl ⟨c1, c2⟩))
  by_cases c3 : 1099511627776 < n
  · exact .inl (.inr (.inr (.inl ⟨c1, c2, c3⟩)))
  by_cases c4 : 1099511627776 < m
  · exact .inl (.inr (.inr (.inr (.inl ⟨c1, c2, c3, c4⟩))))
  by_cases c5 : 1099511627776 < oN
  · exact .inl (.inr (.inr (.inr (.inr (.inl ⟨c1, c2, c3, c4, c5⟩)))))
  by_cases c6 : 1099511627776 < oB
  · exact .inl (.inr (.inr (.inr (.inr (.inr (.inl ⟨c1, c2, c3, c4, c5, c6⟩))))))
  by_cases hx : Fl.num x
  · have e1 : (Fl.ord x x == some .eq) = true := by rw [Fl.eq_num hx hx]; exact decide_eq_true rfl
    have e2 : (!decide (Fl.num x)) = false := by rw [decide_eq_true hx]; rfl
    cases hg : (Fl.ord y x == some .gt || Fl.ord y x == some .eq)
    · exact .inl (.inr (.inr (.inr (.inr (.inr (.inr ⟨c1, c2, c3, c4, c5, c6, rfl, e1⟩))))))
    · have hy : Fl.num y := by
        by_cases hy : Fl.num y
        · exact hy
        · rw [Fl.ord_nan_l hy] at hg; cases hg
      rw [Fl.ge_num hy hx] at hg
      exact .inr ⟨⟨c1, c2, c3, c4, c5, c6⟩, .inl ⟨rfl, e2, age0_mono hx hy (of_decide_eq_true hg)⟩⟩
  · have e1 : (Fl.ord x x == some .eq) = false := by rw [Fl.ord_nan_l hx]; rfl
    have e2 : (!decide (Fl.num x)) = true := by rw [decide_eq_false hx]; rfl
    have e3 : (Fl.ord y x == some .gt || Fl.ord y x == some .eq) = false := by rw [Fl.ord_nan_r hx]; rfl
    exact .inr ⟨⟨c1, c2, c3, c4, c5, c6⟩, .inr ⟨e3, e1, e2, by rw [age0_nan hx, age0_zero]; exact Int.le_refl _⟩⟩

set_option maxRecDepth 100000 in
set_option maxHeartbeats 2000000 in
theorem rises_bad (most bytes oS oN oB n m l a oA u : Int) (sl : Value) (hm : ¬ May most bytes l.toNat a.toNat) (w : World) :
    Calls Try.prog 4 #[.int .i64 most, .int .i64 bytes, .int .u64 l, .int .u64 a, sl, .agg #[.int .i64 oS, .int .i64 oN, .int .i64 oB, .int .u64 oA], .int .i64 n, .int .i64 m, .int .u64 u] w fun e w' =>
      e = .returned (.bool true) ∧ Below w.heap.size w w' := by
  go_enter Try.func4, Try.ntmps4
  go_wp2_with fail
  refine (begun_any _).mono ?_
  rintro e w1 ⟨rfl, hb1⟩
  have hB1 := ((Below.refl w.heap.size w).alloc (Nat.le_refl _) (.cells #[.int .i64 oS, .int .i64 oN, .int .i64 oB, .int .u64 oA] 42)).trans (hb1.mono (by simp))
  have l1 := hB1.size
  clear hb1
  go_wp2_with fail
  refine (of_any _ _ _ _ _).mono ?_
  rintro e w2 ⟨rfl, hb2⟩
  have hB2 := hB1.trans (hb2.mono l1)
  have l2 := hB2.size
  clear hb2
  go_wp2_with fail
  refine (new_bad hm _).mono ?_
  rintro e w3 ⟨rfl, hb3⟩
  have hB3 := (hB2.alloc (by omega) _).trans (hb3.mono (by simp; omega))
  clear hb3
  go_wp2_with fail
  go_ret
  exact ⟨rfl, hB3⟩

set_option maxRecDepth 100000 in
set_option maxHeartbeats 2000000 in
theorem rises_ok (most bytes oS oN oB n m l a oA u : Int) (sl : Option Addr) (len cap : Nat) (zs : Nat → Int) (hl : 0 ≤ l ∧ l < 18446744073709551616) (hm : May most bytes l.toNat a.toNat) (w : World)
    (hlen : (len : Int) ≤ 9223372036854775807) (hN : -9223372036854775808 ≤ oN) (hB : -9223372036854775808 ≤ oB) (hsl : ∀ i, i < len → ∃ b off, sl = some ⟨b, off, none⟩ ∧ b < w.heap.size ∧ w.cell? ⟨b, off + i, none⟩ = some (.int .i64 (zs i))) :
    Calls Try.prog 4 #[.int .i64 most, .int .i64 bytes, .int .u64 l, .int .u64 a, .slice sl len cap, .agg #[.int .i64 oS, .int .i64 oN, .int .i64 oB, .int .u64 oA], .int .i64 n, .int .i64 m, .int .u64 u] w fun e w' =>
      e = .returned (.bool true) ∧ Below w.heap.size w w' := by
  go_enter Try.func4, Try.ntmps4
  go_wp2_with fail
  refine (begun_any _).mono ?_
  rintro e w1 ⟨rfl, hb1⟩
  have hB1 := ((Below.refl w.heap.size w).alloc (Nat.le_refl _) (.cells #[.int .i64 oS, .int .i64 oN, .int .i64 oB, .int .u64 oA] 42)).trans (hb1.mono (by simp))
  have o1 : w1.heap[w.heap.size]? = some (.cells #[.int .i64 oS, .int .i64 oN, .int .i64 oB, .int .u64 oA] 42) := (hb1.block _ (by simp)).trans (alloc_at _ _ _ rfl)
  have l1 : w.heap.size < w1.heap.size := by have := hb1.size; simp at this; omega
  clear hb1
  go_wp2_with fail
  refine (of_any _ _ _ _ _).mono ?_
  rintro e w2 ⟨rfl, hb2⟩
  have hB2 := hB1.trans (hb2.mono (by omega))
  have o2 := (hb2.block w.heap.size l1).trans o1
  have l2 : w.heap.size < w2.heap.size := by have := hb2.size; omega
  clear hb2 hB1 o1 l1
  go_wp2_with fail
  refine (new_ok hm (by omega) _).mono ?_
  rintro e w3 ⟨rfl, hp3, hs3, hb3⟩
  have hB3 := (hB2.alloc (by omega) _).trans (hb3.mono (by simp; omega))
  have o3 := (hb3.block w.heap.size (by simp; omega)).trans ((alloc_past _ _ _ l2).trans o2)
  have q3 := (hb3.block w2.heap.size (by simp)).trans (alloc_at _ _ _ rfl)
  rw [show (w2.alloc (.cells #[.int .i64 most, .int .i64 bytes, .float .f64 l.toNat, .float .f64 a.toNat] 27)).heap.size + 1 = w2.heap.size + 2 from by simp] at hp3 ⊢
  have l3 : w2.heap.size + 2 < w3.heap.size := by simp at hs3; omega
  clear hb3 hB2 o2 hs3
  have g1 := good_one
  have ha := may_alpha hm
  have m1 := hm.m1
  have m2 := hm.m2
  have O3 := Lib.hid o3
  have Q3 := Lib.hid q3
  clear o3 q3
  have f19 := ext19
  obtain ⟨fl, l0, _⟩ := may_linger hm
  obtain ⟨rv, _, _⟩ := Fl.rg_val l.toNat l0
  go_upto_block 0 with (fail)
  go_cut [22] (fun i wx => ∃ s, PaceAt wx (w2.heap.size + 2) most bytes (Fl.rg l.toNat) a.toNat s ∧ Good s ∧ w3.grownBy wx (some (w2.heap.size + 2)))
  case first =>
    go_wp2_with fail
    go_loopw [22] (fun i wr => ∃ (k : Nat) (s : Nat), k ≤ len ∧ i = .int .i64 k ∧ PaceAt wr (w2.heap.size + 2) most bytes (Fl.rg l.toNat) a.toNat s ∧ Good s ∧ w3.grownBy wr (some (w2.heap.size + 2))) (fun i _ => len - (intOf i).toNat)
    case atStart => exact ⟨0, _, Nat.zero_le _, rfl, hp3, g1, only_refl _ _⟩
    case round =>
      obtain ⟨k, s, hk, rfl, hpk, hgk, hgr⟩ := hrel
      by_cases hlt : k < len ∧ k < 50
      · obtain ⟨c1, c2⟩ := hlt
        obtain ⟨b, off, rfl, hbw, hcell⟩ := hsl k c1
        have hcell' : wr.cell? ⟨b, off + k, none⟩ = some (.int .i64 (zs k)) := (grown_cell hgr (by simp; omega) (by simp; omega)).trans ((hB3.cell (p := ⟨b, off + k, none⟩) hbw).trans hcell)
        clear hcell hsl
        go_wp2_with (go_at_call 15; refine (seen_any _ hpk hgk ha m1 m2).mono ?_; rintro e w4 ⟨rfl, hp4, hg4⟩)
        go_roundw
        case rel =>
          refine ⟨k + 1, _, by omega, by go_num, hp4, seenS_good hgk ha m2, ?_⟩
          exact ⟨hg4.os.trans hgr.os, hg4.tape.trans hgr.tape, hg4.output.trans hgr.output, Nat.le_trans hgr.size hg4.size, fun i hi hn => (hg4.block i (Nat.lt_of_lt_of_le hi hgr.size) hn).trans (hgr.block i hi hn)⟩
        case measure => simp [intOf]; omega
      · have hx : ¬ k < len ∨ (k < len ∧ ¬ k < 50) := by omega
        clear hlt
        rcases hx with c1 | ⟨c1, c2⟩
        all_goals
          go_wp2_with fail
          go_meet
          exact ⟨_, hpk, hgk, hgr⟩
  case rest =>
    obtain ⟨s, hpk, hgk, hgr⟩ := hcut
    clear hsl
    obtain ⟨wr1, wr2⟩ := wantN_facts m1 s
    have O := (hgr.block w.heap.size (by omega) (by simp; omega)).trans O3.out
    have Q := (hgr.block w2.heap.size (by omega) (by simp)).trans Q3.out
    have e0 := cell_of_block O
    have eq := cell_of_block Q
    have x1 : wc.cell? ⟨w.heap.size, 1, none⟩ = some (.int .i64 oN) := e0 1
    have x2 : wc.cell? ⟨w.heap.size, 2, none⟩ = some (.int .i64 oB) := e0 2
    have x3 : wc.cell? ⟨w.heap.size, 3, none⟩ = some (.int .u64 oA) := e0 3
    have x4 : wc.cell? ⟨w2.heap.size, 2, none⟩ = some (.float .f64 l.toNat) := eq 2
    have hBr : Below w.heap.size w wc := hB3.trans (grown_below hgr (by omega) (by omega))
    have lr := hgr.size
    clear O Q e0 eq hB3 hp3 hgr O3 Q3
    go_wp2_with fail
    cases hgo : planGo most bytes (Fl.rg l.toNat) s oN oB oA.toNat
    · obtain ⟨d, hd, nW, pW, lW⟩ := wait_facts (Fl.rg_fin fl) (by rw [rv]; exact l0) hgo
      rw [rv] at lW
      obtain ⟨M, nM, lM, runM⟩ := run_max_float (x := l.toNat) (y := 1) fl.num (by decide) #[25, 25] 25
      have t1 : (Fl.ord (planWait (Fl.rg l.toNat) oA.toNat) 0 == some .gt) = true := by
        rw [Fl.gt_num nW Fl.zero_num, Fl.zero_val]; exact decide_eq_true pW
      have t2 : (Fl.ord (planWait (Fl.rg l.toNat) oA.toNat) M == some .lt || Fl.ord (planWait (Fl.rg l.toNat) oA.toNat) M == some .eq) = true := by
        rw [Fl.le_num nW nM]; exact decide_eq_true (Int.le_trans lW lM)
      refine (plan_wait _ _ _ d hpk (by omega) hgk m1 m2 hgo hd).mono ?_
      generalize planWait (Fl.rg l.toNat) oA.toNat = Wt at t1 t2
      clear hgo hd lW pW nW
      rintro e w5 ⟨rfl, hb5⟩
      have l5 := hb5.size
      have hb6 := hb5.trans ((Below.refl wc.heap.size w5).alloc l5 (.cells #[.bool false, .float .f64 Wt] 39))
      have a0 := cell_new w5 #[.bool false, .float .f64 Wt] 39 w5.heap.size 0 rfl
      have a1 := cell_new w5 #[.bool false, .float .f64 Wt] 39 w5.heap.size 1 rfl
      go_wp2_with fail
      generalize w5.alloc (.cells #[.bool false, .float .f64 Wt] 39) = W6 at hb6 a0 a1 ⊢
      have y1 := (hb6.cell (p := ⟨w.heap.size, 1, none⟩) (by simp; omega)).trans x1
      have y2 := (hb6.cell (p := ⟨w.heap.size, 2, none⟩) (by simp; omega)).trans x2
      have y4 := (hb6.cell (p := ⟨w2.heap.size, 2, none⟩) (by simp; omega)).trans x4
      have hp6 := hpk.below hb6 (by omega)
      have hBf := hBr.trans (hb6.mono (by omega))
      clear hb5 hb6 x1 x2 x3 x4 hpk
      go_upto_region 15 with (go_at_call 16; refine (want_any hp6 hgk m1 m2).mono ?_; rintro e w' ⟨rfl, rfl⟩)
      rcases rises_cases n m oN oB oA.toNat u.toNat with (q | ⟨q, r⟩ | ⟨q, r, r2⟩ | ⟨q, r, r2, r3⟩ | ⟨q, r, r2, r3, r4⟩ | ⟨q, r, r2, r3, r4, r5⟩ | ⟨q, r, r2, r3, r4, r5, r6, r7⟩) | ⟨⟨q, r, r2, r3, r4, r5⟩, ⟨r6, r7, r8⟩ | ⟨r6, r7, r8, r9⟩⟩
      all_goals
        go_wp2_with (go_at_call 23; refine (isNaN_any _ _).mono ?_; rintro e w' ⟨rfl, rfl⟩)
        go_ret
        exact ⟨rfl, hBf⟩
    · have z0 : (Fl.ord 0 0 != some .eq) = false := by decide +kernel
      have rfd := run_field39
      have up := Fl.U_pos
      have mono := fun (y : Nat) (h1 : ¬ n < 0) (h2 : ¬ m < 0) (h : Fl.val (age0 oA.toNat) ≤ Fl.val (age0 y)) => planGo_mono (n' := oN + n) (b' := oB + m) (y := y) (Fl.rg_fin fl).num (by omega) (by omega) h hgo
      refine (plan_go _ _ _ hpk (by omega) hgk m1 m2 hgo).mono ?_
      rintro e w5 ⟨rfl, hb5⟩
      have l5 := hb5.size
      have hb6 := hb5.trans ((Below.refl wc.heap.size w5).alloc l5 (.cells #[.bool true, .float .f64 0] 39))
      have a0 := cell_new w5 #[.bool true, .float .f64 0] 39 w5.heap.size 0 rfl
      have a1 := cell_new w5 #[.bool true, .float .f64 0] 39 w5.heap.size 1 rfl
      have l6 := hb6.size
      go_wp2_with fail
      generalize w5.alloc (.cells #[.bool true, .float .f64 0] 39) = W6 at hb6 a0 a1 l6 ⊢
      have y1 := (hb6.cell (p := ⟨w.heap.size, 1, none⟩) (by simp; omega)).trans x1
      have y2 := (hb6.cell (p := ⟨w.heap.size, 2, none⟩) (by simp; omega)).trans x2
      have hp6 := hpk.below hb6 (by omega)
      have hBf := hBr.trans (hb6.mono (by omega))
      have MONO := Lib.hid mono
      clear hb5 hb6 x1 x2 x3 x4 hpk hgo mono
      go_upto_region 15 with (go_at_call 16; refine (want_any hp6 hgk m1 m2).mono ?_; rintro e w' ⟨rfl, rfl⟩)
      rcases rises_cases n m oN oB oA.toNat u.toNat with (q | ⟨q, r⟩ | ⟨q, r, r2⟩ | ⟨q, r, r2, r3⟩ | ⟨q, r, r2, r3, r4⟩ | ⟨q, r, r2, r3, r4, r5⟩ | ⟨q, r, r2, r3, r4, r5, r6, r7⟩) | ⟨⟨q, r, r2, r3, r4, r5⟩, ⟨r6, r7, r8⟩ | ⟨r6, r7, r8, r9⟩⟩
      all_goals
        try
          go_wp2_with fail
          go_ret
          exact ⟨rfl, hBf⟩
      · have go2 := MONO.out u.toNat (by omega) (by omega) r8
        clear r8
        go_wp2_with (go_at_call 23; refine (isNaN_any _ _).mono ?_; rintro e w' ⟨rfl, rfl⟩)
        refine (plan_go _ _ _ hp6 (by omega) hgk m1 m2 go2).mono ?_
        rintro e w7 ⟨rfl, hb7⟩
        go_wp2_with fail
        go_ret
        exact ⟨rfl, hBf.trans (hb7.mono (by omega))⟩
      · have go2 := MONO.out 0 (by omega) (by omega) r9
        clear r9
        go_wp2_with (go_at_call 23; refine (isNaN_any _ _).mono ?_; rintro e w' ⟨rfl, rfl⟩)
        refine (plan_go _ _ _ hp6 (by omega) hgk m1 m2 go2).mono ?_
        rintro e w7 ⟨rfl, hb7⟩
        go_wp2_with fail
        go_ret
        exact ⟨rfl, hBf.trans (hb7.mono (by omega))⟩
end Go.Proofs.Ytofjgnlolmaidaa
