/- Plain facts on binary64 words, the second part: comparisons as facts on worths; what a smoothing step keeps; whole numbers. -/
import Derived.Test.YtofjgnlolmaidaaFl
import Derived.Laws.FloatArith
namespace Go.Proofs.Ytofjgnlolmaidaa.Fl
set_option linter.unusedVariables false
open Ieee

def U : Int := (2 : Int) ^ 1074
theorem U_pos : 0 < U := pow_pos_int 1074
theorem U_eq : (2 : Int) ^ 1074 = U := rfl
theorem pow_zero_int : (2 : Int) ^ 0 = 1 := rfl

instance (x : Nat) : Decidable (num x) := by unfold num; infer_instance
instance (x : Nat) : Decidable (fin x) := by unfold fin; infer_instance

/-- the walk's spelling of a comparison -/
abbrev ord (x y : Nat) : Option Ordering := FloatKind.f64.format.order x y
theorem ord_num {x y : Nat} (hx : num x) (hy : num y) : ord x y = some (compare (val x) (val y)) := order_num hx hy
theorem ord_nan_l {x y : Nat} (hx : ¬ num x) : ord x y = none := order_nan_left hx
theorem ord_nan_r {x y : Nat} (hy : ¬ num y) : ord x y = none := order_nan_right hy

theorem gt_num {x y : Nat} (hx : num x) (hy : num y) : (ord x y == some .gt) = decide (val y < val x) := by
  rw [ord_num hx hy]
  rcases Int.lt_trichotomy (val x) (val y) with h | h | h
  · rw [Int.compare_eq_lt.2 h, decide_eq_false (by omega)]; rfl
  · rw [Int.compare_eq_eq.2 h, decide_eq_false (by omega)]; rfl
  · rw [Int.compare_eq_gt.2 h, decide_eq_true h]; rfl
theorem lt_num {x y : Nat} (hx : num x) (hy : num y) : (ord x y == some .lt) = decide (val x < val y) := by
  rw [ord_num hx hy]
  rcases Int.lt_trichotomy (val x) (val y) with h | h | h
  · rw [Int.compare_eq_lt.2 h, decide_eq_true h]; rfl
  · rw [Int.compare_eq_eq.2 h, decide_eq_false (by omega)]; rfl
  · rw [Int.compare_eq_gt.2 h, decide_eq_false (by omega)]; rfl
theorem eq_num {x y : Nat} (hx : num x) (hy : num y) : (ord x y == some .eq) = decide (val x = val y) := by
  rw [ord_num hx hy]
  rcases Int.lt_trichotomy (val x) (val y) with h | h | h
  · rw [Int.compare_eq_lt.2 h, decide_eq_false (by omega)]; rfl
  · rw [Int.compare_eq_eq.2 h, decide_eq_true h]; rfl
  · rw [Int.compare_eq_gt.2 h, decide_eq_false (by omega)]; rfl
theorem ge_num {x y : Nat} (hx : num x) (hy : num y) : (ord x y == some .gt || ord x y == some .eq) = decide (val y ≤ val x) := by
  rw [gt_num hx hy, eq_num hx hy, Bool.eq_iff_iff]; simp; omega
theorem le_num {x y : Nat} (hx : num x) (hy : num y) : (ord x y == some .lt || ord x y == some .eq) = decide (val x ≤ val y) := by
  rw [lt_num hx hy, eq_num hx hy, Bool.eq_iff_iff]; simp; omega

theorem neq_self_num {x : Nat} (h : num x) : (ord x x != some .eq) = false := by rw [bne, eq_num h h]; simp
theorem neq_self_nan {x : Nat} (h : ¬ num x) : (ord x x != some .eq) = true := by rw [ord_nan_l h]; rfl

/-- NaNs made alike. -/
def canon (x : Nat) : Nat := if num x then x else 9221120237041090561
def canonO : Option Nat → Nat
  | some r => r
  | none => 9221120237041090561

theorem word_num (s : Bool) {r : Nat} (h : r ≤ INF) : num (word s r) := by
  unfold num; rw [rg_word s (Nat.lt_of_le_of_lt h INF_lt_SGN)]; exact h

theorem write_num {d : Datum} (h : ∀ s t, d ≠ .nan s t) : num (double.write d) := by
  cases d with
  | number s m p => show num (double.nearest s m p); rw [nearest_eq]; exact word_num s (nrung_le m p)
  | infinity s => exact word_num s (Nat.le_refl INF)
  | nan s t => exact absurd rfl (h s t)

theorem add_num {x y r : Nat} (h : double.add x y = some r) : num r := by
  unfold Format.add at h
  cases hx : double.read x <;> cases hy : double.read y <;> rw [hx, hy] at h <;> simp only [Datum.sum, Option.map_some, Option.map_none] at h
  all_goals first
    | (cases h; done)
    | (cases h; exact write_num (fun _ _ => nofun))
    | (split at h <;> first | (cases h; done) | (cases h; exact write_num (fun _ _ => nofun)))

theorem V_INF_big : ∀ k : Nat, k < 9007199254740992 → k * 2 ^ 1074 < V INF := by
  intro k hk
  obtain ⟨r, hr, e⟩ := V_rep 1074 k hk (by omega)
  rw [← e]; exact V_lt hr
theorem fin_of_val {x : Nat} (h : num x) {k : Nat} (hk : k < 9007199254740992) (h1 : val x ≤ (k : Int) * U) (h2 : -((k : Int) * U) ≤ val x) : fin x := by
  have := V_INF_big k hk
  rcases Nat.lt_or_eq_of_le h with e | e
  · exact e
  · exfalso
    have hv := val_inf e
    have c : ((k * 2 ^ 1074 : Nat) : Int) = (k : Int) * U := cast_mul_pow k 1074
    generalize 2 ^ 1074 = c2 at *
    rw [hv] at h1 h2
    split at h1 <;> rename_i hn
    · rw [if_pos hn] at h2; omega
    · rw [if_neg hn] at h2; omega

/-- the word of a small whole number -/
def ofI (n : Int) : Nat := double.write (.number (n < 0) n.natAbs 0)
theorem ofI_val {n : Int} (h : n.natAbs < 9007199254740992) : val (ofI n) = n * U := (ofInt_val n h).1
theorem ofI_fin {n : Int} (h : n.natAbs < 9007199254740992) : fin (ofI n) := (ofInt_val n h).2.1
theorem ofI_lt {n : Int} (h : n.natAbs < 9007199254740992) : ofI n < 18446744073709551616 := (ofInt_val n h).2.2
theorem ofI_floatOfInt (n : Int) : floatOfInt .f64 n = ofI n := rfl

theorem zero_val : val 0 = 0 := by unfold val ng rg; simp [V_zero]
theorem zero_num : num 0 := by unfold num rg; decide
theorem one_is : ofI 1 = 4607182418800017408 := by decide +kernel
theorem one_val : val 4607182418800017408 = U := by rw [← one_is, ofI_val (by decide)]; omega
theorem one_fin : fin 4607182418800017408 := by rw [← one_is]; exact ofI_fin (by decide)

def opp (x : Nat) : Nat := word (!ng x) (rg x)
theorem rg_lt (x : Nat) : rg x < SGN := Nat.mod_lt _ (by decide)
theorem opp_val (x : Nat) : val (opp x) = -val x := by
  unfold opp; rw [val_word _ (rg_lt x)]; unfold val; cases ng x <;> simp
theorem opp_num {x : Nat} (h : num x) : num (opp x) := by
  unfold opp num; rw [rg_word _ (rg_lt x)]; exact h

theorem mulU_le {a b : Int} (c : Int) (hc : 0 ≤ c) (h : a ≤ b) : a * c ≤ b * c := Int.mul_le_mul_of_nonneg_right h hc

/-- One step of the smoothing towards a small whole number: finite, and from 0 to 512 as before. -/
theorem smooth_keeps {s a : Nat} {n : Int} (hs : fin s) (h0 : 0 ≤ val s) (h1 : val s ≤ 512 * U) (ha : fin a) (a0 : 0 ≤ val a) (a1 : val a ≤ U) (n1 : 1 ≤ n) (n2 : n ≤ 256) :
    ∃ d y r, double.sub (ofI n) s = some d ∧ double.mul a d = some y ∧ double.add s y = some r ∧ num d ∧ num y ∧ fin r ∧ 0 ≤ val r ∧ val r ≤ 512 * U := by
  have hn : n.natAbs < 9007199254740992 := by omega
  have up := U_pos
  obtain ⟨d, e1, r1⟩ := sub_fin (ofI_fin hn) hs
  rw [ofI_val hn] at r1
  have nU : U ≤ n * U := by have := mulU_le U (by omega) n1; omega
  have nU2 : n * U ≤ 256 * U := mulU_le U (by omega) n2
  have p512 : val (ofI 512) = 512 * U := ofI_val (by decide)
  have f512 : num (ofI 512) := (ofI_fin (by decide)).num
  -- d
  have key : num d ∧ fin d ∧ ((0 ≤ val d ∧ val d ≤ n * U ∧ val s ≤ n * U) ∨ (val d ≤ 0 ∧ -val s ≤ val d)) := by
    by_cases c : val s ≤ n * U
    · have d0 := r1.lo 0 zero_num (by rw [zero_val, pow_zero_int]; omega)
      rw [zero_val] at d0
      have d1 := r1.hi (ofI n) (ofI_fin hn).num (by rw [ofI_val hn, pow_zero_int]; omega)
      rw [ofI_val hn] at d1
      exact ⟨r1.isnum, fin_of_val r1.isnum (k := 256) (by decide) (by show val d ≤ 256 * U; omega) (by show -(256 * U) ≤ val d; omega), .inl ⟨d0, d1, c⟩⟩
    · have d0 := r1.hi 0 zero_num (by rw [zero_val, pow_zero_int]; omega)
      rw [zero_val] at d0
      have d1 := r1.lo (opp s) (opp_num hs.num) (by rw [opp_val, pow_zero_int]; omega)
      rw [opp_val] at d1
      exact ⟨r1.isnum, fin_of_val r1.isnum (k := 512) (by decide) (by show val d ≤ 512 * U; omega) (by show -(512 * U) ≤ val d; omega), .inr ⟨d0, d1⟩⟩
  obtain ⟨nd, fd, hd⟩ := key
  obtain ⟨y, e2, r2⟩ := mul_fin ha fd
  have key2 : (0 ≤ val d → 0 ≤ val y ∧ val y ≤ val d) ∧ (val d ≤ 0 → val y ≤ 0 ∧ val d ≤ val y) := by
    constructor
    · intro hd0
      have m0 : 0 ≤ val a * val d := Int.mul_nonneg a0 hd0
      have m1 : val a * val d ≤ val d * U := by rw [Int.mul_comm (val d)]; exact Int.mul_le_mul_of_nonneg_right a1 hd0
      have y0 := r2.lo 0 zero_num (by rw [zero_val]; omega)
      have y1 := r2.hi d nd m1
      rw [zero_val] at y0
      exact ⟨y0, y1⟩
    · intro hd0
      have m0 : val a * val d ≤ 0 := by
        have := Int.mul_nonneg a0 (show 0 ≤ -val d by omega)
        rw [Int.mul_neg] at this; omega
      have m1 : val d * U ≤ val a * val d := by
        have := Int.mul_le_mul_of_nonneg_right a1 (show 0 ≤ -val d by omega)
        rw [Int.mul_neg, Int.mul_neg] at this; rw [Int.mul_comm (val d)]; omega
      have y0 := r2.hi 0 zero_num (by rw [zero_val]; omega)
      have y1 := r2.lo d nd m1
      rw [zero_val] at y0
      exact ⟨y0, y1⟩
  have fy : fin y := by
    rcases hd with ⟨q0, q1, q2⟩ | ⟨q0, q1⟩
    · have := key2.1 q0
      exact fin_of_val r2.isnum (k := 256) (by decide) (by show val y ≤ 256 * U; omega) (by show -(256 * U) ≤ val y; omega)
    · have := key2.2 q0
      exact fin_of_val r2.isnum (k := 512) (by decide) (by show val y ≤ 512 * U; omega) (by show -(512 * U) ≤ val y; omega)
  obtain ⟨r, e3, r3⟩ := add_fin hs fy
  have key3 : 0 ≤ val r ∧ val r ≤ 512 * U := by
    rcases hd with ⟨q0, q1, q2⟩ | ⟨q0, q1⟩
    · have k2 := key2.1 q0
      have b0 := r3.lo 0 zero_num (by rw [zero_val, pow_zero_int]; omega)
      have b1 := r3.hi (ofI 512) f512 (by rw [p512, pow_zero_int]; omega)
      rw [zero_val] at b0; rw [p512] at b1
      exact ⟨b0, b1⟩
    · have k2 := key2.2 q0
      have b0 := r3.lo 0 zero_num (by rw [zero_val, pow_zero_int]; omega)
      have b1 := r3.hi (ofI 512) f512 (by rw [p512, pow_zero_int]; omega)
      rw [zero_val] at b0; rw [p512] at b1
      exact ⟨b0, b1⟩
  exact ⟨d, y, r, e1, e2, e3, nd, r2.isnum, fin_of_val r3.isnum (k := 512) (by decide) (by show val r ≤ 512 * U; omega) (by show -(512 * U) ≤ val r; omega), key3.1, key3.2⟩

/-- The word of 'math.Ceil'. -/
def ceilW (x : Nat) : Nat := double.write ((double.read x).integral .up)

theorem C_cast : (C : Int) = U := by unfold C U; generalize 1074 = k; exact cast_pow k

theorem ceil_spec {s : Nat} (hs : fin s) (h0 : 0 ≤ val s) (h1 : val s ≤ 512 * U) :
    (ceilN s : Int) ≤ 512 ∧ val s ≤ ceilN s * U ∧ ((ceilN s : Int) - 1) * U < val s ∨ (ceilN s = 0 ∧ val s = 0) := by
  have up := U_pos
  have hU : (C : Int) = U := C_cast
  have p := C_pos
  unfold ceilN
  by_cases hn : ng s = true
  · right
    have : val s = -(V (rg s) : Int) := by unfold val; rw [if_pos hn]
    have v0 : V (rg s) = 0 := by omega
    rw [v0, hn, Nat.zero_div]; exact ⟨rfl, by omega⟩
  · have hv : val s = (V (rg s) : Int) := by unfold val; rw [if_neg hn]
    have hn' : ng s = false := by simpa using hn
    rw [hv] at h1 ⊢
    rw [hn']
    generalize V (rg s) = v at h1 ⊢
    generalize hc : C = c at p hU ⊢
    rw [← hU] at h1 ⊢
    have hdm := Nat.div_add_mod v c
    have hm := Nat.mod_lt v p
    generalize v / c = q at hdm ⊢
    generalize v % c = r at hdm hm ⊢
    have hq : q ≤ 512 := by
      refine Nat.le_of_not_lt fun hlt => ?_
      have : 513 * c ≤ q * c := Nat.mul_le_mul_right c hlt
      rw [Nat.mul_comm q] at this
      omega
    by_cases hr : r = 0
    · left
      subst hr
      simp only [Bool.not_false, bne_self_eq_false, Bool.and_false, Bool.toNat_false, Nat.add_zero]
      have e1 : ((q : Nat) : Int) * (c : Int) = ((c * q : Nat) : Int) := by rw [Int.natCast_mul, Int.mul_comm]
      refine ⟨by omega, by rw [e1]; omega, ?_⟩
      rw [Int.sub_mul, e1]; omega
    · left
      have hb : (!false && r != 0) = true := by simp [hr]
      rw [hb]; simp only [Bool.toNat_true]
      have e1 : ((q : Nat) : Int) * (c : Int) = ((c * q : Nat) : Int) := by rw [Int.natCast_mul, Int.mul_comm]
      have hq2 : q < 512 := by
        refine Nat.lt_of_not_le fun hle => ?_
        have : 512 * c ≤ q * c := Nat.mul_le_mul_right c hle
        rw [Nat.mul_comm q] at this
        omega
      refine ⟨by omega, ?_, ?_⟩
      · rw [Int.natCast_add, Int.add_mul, e1]; omega
      · rw [Int.natCast_add, Int.sub_mul, Int.add_mul, e1]; omega

theorem ceilW_eq {s : Nat} (hs : fin s) : ceilW s = word (ng s) (nrung (ceilN s) 0) := by
  unfold ceilW; rw [ceil_read hs]; exact nearest_eq _ _ _

theorem nrung_whole {m : Nat} (h : m < 9007199254740992) : nrung m 0 < INF ∧ V (nrung m 0) = m * C := by
  obtain ⟨r, hr, e⟩ := V_rep 1074 m h (by omega)
  have hs := nrung_spec m 1074 0 0 (by omega) r
  have e1 : nrung m 0 = r := Nat.le_antisymm (hs.2 (by rw [e]; omega)) (hs.1 (by rw [e]; omega) (by omega))
  rw [e1]; refine ⟨hr, ?_⟩; rw [e, C]

theorem ceilN_neg {s : Nat} (h0 : 0 ≤ val s) (hn : ng s = true) : ceilN s = 0 := by
  have : val s = -(V (rg s) : Int) := by unfold val; rw [if_pos hn]
  have v0 : V (rg s) = 0 := by omega
  unfold ceilN; rw [v0, hn, Nat.zero_div]; rfl

theorem ceilN_le {s : Nat} (hs : fin s) (h0 : 0 ≤ val s) (h1 : val s ≤ 512 * U) : ceilN s ≤ 512 := by
  rcases ceil_spec hs h0 h1 with h | h <;> omega

theorem ceilW_val {s : Nat} (hs : fin s) (h0 : 0 ≤ val s) (h1 : val s ≤ 512 * U) : fin (ceilW s) ∧ val (ceilW s) = ceilN s * U := by
  have hc := ceilN_le hs h0 h1
  rw [ceilW_eq hs]
  obtain ⟨w1, w2⟩ := nrung_whole (m := ceilN s) (by omega)
  have hlt : nrung (ceilN s) 0 < SGN := Nat.lt_trans w1 INF_lt_SGN
  refine ⟨by unfold fin; rw [rg_word _ hlt]; exact w1, ?_⟩
  rw [val_word _ hlt, w2]
  by_cases hn : ng s = true
  · have := ceilN_neg h0 hn
    rw [hn, this]; simp
  · rw [if_neg hn, Int.natCast_mul, C_cast]

theorem ceilW_ge {s : Nat} {n : Int} (hs : fin s) (h0 : 0 ≤ val s) (h1 : val s ≤ 512 * U) (hn : n.natAbs < 9007199254740992) :
    (ord (ceilW s) (ofI n) == some .gt || ord (ceilW s) (ofI n) == some .eq) = decide (n ≤ ceilN s) := by
  obtain ⟨f, v⟩ := ceilW_val hs h0 h1
  rw [ge_num f.num (ofI_fin hn).num, v, ofI_val hn, Bool.eq_iff_iff]
  simp only [decide_eq_true_eq]
  exact ⟨fun h => Int.le_of_mul_le_mul_right h U_pos, fun h => Int.mul_le_mul_of_nonneg_right h (Int.le_of_lt U_pos)⟩

theorem ceilW_toInt {s : Nat} (hs : fin s) (h0 : 0 ≤ val s) (h1 : val s ≤ 512 * U) : floatToIntVal .f64 (ceilW s) .i64 = some (ceilN s : Int) := by
  obtain ⟨f, _⟩ := ceilW_val hs h0 h1
  have hc := ceilN_le hs h0 h1
  have e : (FloatKind.f64.decode (ceilW s)).toInt .zero = some (ceilN s : Int) := by
    show (double.read (ceilW s)).toInt .zero = _
    rw [toInt_fin f]
    obtain ⟨w1, w2⟩ := nrung_whole (m := ceilN s) (by omega)
    have hlt : nrung (ceilN s) 0 < SGN := Nat.lt_trans w1 INF_lt_SGN
    rw [ceilW_eq hs, rg_word _ hlt, ng_word _ hlt, w2]
    rw [Nat.mul_div_cancel _ C_pos]
    by_cases hn : ng s = true
    · rw [ceilN_neg h0 hn, hn]; rfl
    · rw [if_neg hn]
  unfold floatToIntVal
  rw [e]
  simp only
  rw [if_pos (by simp [IntKind.min, IntKind.max, IntKind.bits, IntKind.signed]; omega)]

/-- What is wanted. -/
def wantN (most : Int) (s : Nat) : Int := if most ≤ ceilN s then most else if 1 ≤ (ceilN s : Int) then ceilN s else 1

theorem wantN_range {most : Int} {s : Nat} (h : 1 ≤ most) : 1 ≤ wantN most s ∧ wantN most s ≤ most := by
  unfold wantN; split
  · omega
  · split <;> omega

/-- The reference's loop: the first n from 1 on whose word is at least s. -/
theorem ge_ceil {s : Nat} {n : Int} (hs : fin s) (h0 : 0 ≤ val s) (h1 : val s ≤ 512 * U) (hn : n.natAbs < 9007199254740992) (n1 : 1 ≤ n) :
    (ord (ofI n) s == some .gt || ord (ofI n) s == some .eq) = decide ((ceilN s : Int) ≤ n) := by
  have up := U_pos
  rw [ge_num (ofI_fin hn).num hs.num, ofI_val hn, Bool.eq_iff_iff]
  simp only [decide_eq_true_eq]
  rcases ceil_spec hs h0 h1 with ⟨_, hc, hd⟩ | ⟨hc, hv⟩
  · constructor
    · intro h
      have : ((ceilN s : Int) - 1) * U < n * U := by omega
      have := Int.lt_of_mul_lt_mul_right this (Int.le_of_lt up)
      omega
    · intro h
      have := Int.mul_le_mul_of_nonneg_right h (Int.le_of_lt up)
      omega
  · rw [hc, hv]
    have := Int.mul_le_mul_of_nonneg_right n1 (Int.le_of_lt up)
    constructor
    · intro _; omega
    · intro _; omega

end Go.Proofs.Ytofjgnlolmaidaa.Fl
