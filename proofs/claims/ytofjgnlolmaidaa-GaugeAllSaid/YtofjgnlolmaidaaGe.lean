/- Putting a number into a gauge: its cell. -/
import Derived.Test.YtofjgnlolmaidaaGd
import Derived.Deep.RegionHeld3
import Derived.Deep.DrawnRows
namespace Go.Proofs.Ytofjgnlolmaidaa
set_option linter.unusedVariables false
open Go.RowKit
attribute [local go_sem ↓] Go.wp_at_zero Go.wp_at_succ

theorem there51 {w : World} {b bc bb : Nat} {g : Gau} (h : GaugeAt w b bc bb g) : Calls Try.prog 51 #[.pointer (some ⟨b, 0, none⟩)] w fun e w' => e = .returned (.bool true) ∧ w = w' := by
  have h0 := h.c0
  clear h
  go_enter Try.func51, Try.ntmps51
  go_wp2
  go_ret
  exact ⟨rfl, rfl⟩
theorem there51_nil (w : World) : Calls Try.prog 51 #[.pointer none] w fun e w' => e = .returned (.bool false) ∧ w = w' := by
  go_enter Try.func51, Try.ntmps51
  go_wp2
  go_ret
  exact ⟨rfl, rfl⟩

theorem cmpN_le (a b : Nat) : decide (cmpN a b ≤ 0) = decide (a ≤ b) := by
  unfold cmpN
  by_cases h : a < b
  · rw [if_pos h, decide_eq_true (by omega : a ≤ b)]; rfl
  · rw [if_neg h]
    by_cases h2 : b < a
    · rw [if_pos h2, decide_eq_false (by omega : ¬ a ≤ b)]; rfl
    · rw [if_neg h2, decide_eq_true (by omega : a ≤ b)]; rfl

/-- The words of a gauge fit 64 bits. -/
def Wide (g : Gau) : Prop := ∀ i, i < g.n → g.bs i < 18446744073709551616

/-- What the search asks. -/
theorem ask67 {w : World} {b bc bb : Nat} {g : Gau} {p q : Nat} {x : Nat} (i : Nat) (h : GaugeAt w b bc bb g) (hw : Wide g) (hx : x < 18446744073709551616) (hi : i < g.n) (h64 : g.n ≤ 64)
    (hp : w.cell? ⟨p, 0, none⟩ = some (.float .f64 x)) (hq : w.cell? ⟨q, 0, none⟩ = some (.pointer (some ⟨b, 0, none⟩))) :
    Calls Try.prog 67 #[.int .i64 i, .pointer (some ⟨p, 0, none⟩), .pointer (some ⟨q, 0, none⟩)] w fun e w' => e = .returned (.bool (decide (key x ≤ key (g.bs i)))) ∧ Drawn w w' := by
  obtain ⟨sl, cap, h1, h1'⟩ := h.c1
  have hsl := h1' i hi
  subst hsl
  have hb := h.bnd i hi
  have hbi := hw i hi
  rw [← cmpN_le]
  have C := fun w => compare50 hx hbi w
  generalize cmpN (key x) (key (g.bs i)) = c at *
  generalize g.bs i = y at *
  generalize g.n = n at *
  have i0 : (0 : Int) ≤ (i : Int) := by omega
  have i1 : (i : Int) < (n : Int) := by omega
  clear h hw h1'
  have CC := Lib.hid C
  clear C
  go_enter Try.func67, Try.ntmps67
  go_wp2_with fail
  go_quiet ((go_at_call 50; exact quiet_left (CC.out _)))
  go_wp2
  go_ret
  exact ⟨rfl, _, rfl⟩
theorem Fit.mono {n : Nat} {bs : Nat → Nat} (h : Fit n bs) : ∀ d t, t + d < n → key (bs t) ≤ key (bs (t + d)) := by
  intro d
  induction d with
  | zero => intro t _; exact Nat.le_refl _
  | succ d ih =>
    intro t ht
    have h1 := ih t (by omega)
    have h2 := h.up (t + (d + 1)) (by omega) ht
    rw [show t + (d + 1) - 1 = t + d from by omega] at h2
    exact Nat.le_of_lt (Nat.lt_of_le_of_lt h1 h2)
theorem Fit.le {n : Nat} {bs : Nat → Nat} (h : Fit n bs) {s t : Nat} (hst : s ≤ t) (ht : t < n) : key (bs s) ≤ key (bs t) := by
  have := h.mono (t - s) s (by omega)
  rwa [show s + (t - s) = t from by omega] at this

theorem GaugeAt.drawn {w w' : World} {b bc bb : Nat} {g : Gau} (h : GaugeAt w b bc bb g) (hd : Drawn w w') : GaugeAt w' b bc bb g := by
  obtain ⟨n, rfl⟩ := hd; exact h.drewN n
theorem Drawn.refl (w : World) : Drawn w w := ⟨0, rfl⟩
theorem Drawn.trans {a b c : World} (h : Drawn a b) (k : Drawn b c) : Drawn a c := by
  obtain ⟨n, rfl⟩ := h; obtain ⟨m, rfl⟩ := k; exact ⟨n + m, by simp⟩
theorem Drawn.cell {a b : World} (h : Drawn a b) (p : Addr) : b.cell? p = a.cell? p := by obtain ⟨n, rfl⟩ := h; rfl

/-- The number's cell: so many bounds are ahead of it. -/
def IxIs (g : Gau) (x c : Nat) : Prop := c ≤ g.n ∧ (∀ t, t < c → key (g.bs t) < key x) ∧ (∀ t, c ≤ t → t < g.n → key x ≤ key (g.bs t))
def IxPost (g : Gau) (x : Nat) (w : World) (e : Ending) (w' : World) : Prop := ∃ c : Nat, e = .returned (.int .i64 c) ∧ IxIs g x c ∧ Drawn w w'

set_option maxHeartbeats 1000000 in
theorem search66 {w : World} {b bc bb : Nat} {g : Gau} {p q : Nat} {x : Nat} (h : GaugeAt w b bc bb g) (hf : Fit g.n g.bs) (hw : Wide g) (hx : x < 18446744073709551616) (h64 : g.n ≤ 64)
    (hp : w.cell? ⟨p, 0, none⟩ = some (.float .f64 x)) (hq : w.cell? ⟨q, 0, none⟩ = some (.pointer (some ⟨b, 0, none⟩))) :
    Calls Try.prog 66 #[.int .i64 (g.n : Int), .func (.func 67) #[] #[.pointer (some ⟨p, 0, none⟩), .pointer (some ⟨q, 0, none⟩)]] w (IxPost g x w) := by
  have A := fun (i : Nat) (hi : i < g.n) (w' : World) (hd : Drawn w w') => ask67 i (h.drawn hd) hw hx hi h64 ((hd.cell _).trans hp) ((hd.cell _).trans hq)
  have AA := Lib.hid A
  have FF := Lib.hid hf
  clear A h hf hw hx hp hq
  go_enter Try.func66, Try.ntmps66
  go_wp2_with fail
  go_loopw [5, 6] (fun i j wr => ∃ (a c : Nat), a ≤ c ∧ c ≤ g.n ∧ i = .int .i64 a ∧ j = .int .i64 c ∧ (∀ t, t < a → key (g.bs t) < key x) ∧ (∀ t, c ≤ t → t < g.n → key x ≤ key (g.bs t)) ∧ Drawn w wr) (fun i j _ => (intOf j - intOf i).toNat)
  case atStart => exact ⟨0, g.n, by omega, by omega, rfl, rfl, fun t ht => absurd ht (Nat.not_lt_zero t), fun t h1 h2 => by omega, Drawn.refl _⟩
  case round =>
    obtain ⟨a, c, hac, hcn, rfl, rfl, hlo, hhi, hd⟩ := hrel
    have LO := Lib.hid hlo
    have HI := Lib.hid hhi
    have DD := Lib.hid hd
    clear hlo hhi hd
    by_cases hlt : a < c
    · go_wp2_with fail
      obtain ⟨m, hm⟩ : ∃ m : Nat, m = (a + c) / 2 := ⟨_, rfl⟩
      have hmi : ((a : Int) + (c : Int)) / 2 = (m : Int) := by omega
      have m1 : a ≤ m := by omega
      have m2 : m < c := by omega
      rw [hmi]
      clear hm hmi
      have := AA.out m (by omega) wr DD.out
      refine this.mono ?_
      rintro e w' ⟨rfl, hd'⟩
      have DD' := Lib.hid (DD.out.trans hd')
      clear hd' this
      by_cases hk : key x ≤ key (g.bs m)
      · have KK := Lib.hid hk
        rw [decide_eq_true hk]
        clear hk
        go_wp2_with fail
        go_roundw
        case rel => exact ⟨a, m, by omega, by omega, rfl, rfl, LO.out, fun t h1 h2 => Nat.le_trans KK.out (FF.out.le h1 h2), DD'.out⟩
        case measure => simp [intOf]; omega
      · have KK := Lib.hid hk
        rw [decide_eq_false hk]
        clear hk
        go_wp2_with fail
        go_roundw
        case rel =>
          refine ⟨m + 1, c, by omega, by omega, by go_num, rfl, fun t h1 => ?_, HI.out, DD'.out⟩
          have := FF.out.le (show t ≤ m from by omega) (by omega)
          have := KK.out
          omega
        case measure => simp [intOf]; omega
    · have : a = c := by omega
      subst this
      go_wp2_with fail
      go_ret
      exact ⟨a, rfl, ⟨hcn, LO.out, HI.out⟩, DD.out⟩
theorem cell52 {w : World} {b bc bb : Nat} {g : Gau} {x : Nat} (h : GaugeAt w b bc bb g) (hf : Fit g.n g.bs) (hw : Wide g) (hx : x < 18446744073709551616) (h64 : g.n ≤ 64) :
    Calls Try.prog 52 #[.pointer (some ⟨b, 0, none⟩), .float .f64 x] w fun e w' => ∃ c : Nat, e = .returned (.int .i64 c) ∧ IxIs g x c ∧ Below w.heap.size w w' := by
  have hmf : ∀ (fn : Fn) (first cap : Array Value) (w : World), (Instr.makeFunc fn first cap).run Try.prog w = .ok (.func fn first cap) w := fun _ _ _ _ => rfl
  have hB : ∀ o1 o2 : Obj, Below w.heap.size w ((w.alloc o1).alloc o2) := fun o1 o2 => ((Below.refl w.heap.size w).alloc (Nat.le_refl _) _).alloc (by simp) _
  have hA := fun o1 o2 => h.chg (Chg.of_below (hB o1 o2) []) (by simp) (by simp) (by simp)
  have S := fun (o1 o2 : Obj) h1 h2 => search66 (p := w.heap.size + 1) (q := w.heap.size) (hA o1 o2) hf hw hx h64 h1 h2
  have SS := Lib.hid S
  have h1 := (hA (.cells #[.pointer (some ⟨b, 0, none⟩)] 57) (.cells #[.float .f64 x] 25)).c1
  obtain ⟨sl, cap, h1, _⟩ := h1
  clear hA S h hf hw
  go_enter Try.func52, Try.ntmps52
  go_wp2_with fail
  refine (SS.out _ _ ?_ ?_).mono ?_
  · exact cell_new _ _ _ _ _ (by simp)
  · exact (cell_old _ _ _ _ (by simp)).trans (cell_new _ _ _ _ _ rfl)
  rintro e w' ⟨c, rfl, hix, n, rfl⟩
  have HIX := Lib.hid hix
  clear hix
  go_wp2_with fail
  go_ret
  exact ⟨c, rfl, HIX.out, (hB _ _).trans ⟨rfl, rfl, rfl, Nat.le_refl _, fun _ _ => rfl⟩⟩
end Go.Proofs.Ytofjgnlolmaidaa
