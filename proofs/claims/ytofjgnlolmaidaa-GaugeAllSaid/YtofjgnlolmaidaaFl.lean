/- Plain facts on binary64 words: each finite word stands for a whole number of units 2^-1074; rounding is monotone and keeps what is exact. -/
import Ieee.Arith
namespace Go.Proofs.Ytofjgnlolmaidaa.Fl
set_option linter.unusedVariables false
open Ieee

/-- The rung's worth in units of 2^-1074 (the formula goes on at infinity's rung). -/
def V (r : Nat) : Nat := if r < 4503599627370496 then r else (4503599627370496 + r % 4503599627370496) * 2 ^ (r / 4503599627370496 - 1)

theorem V_mk (q k : Nat) (hk : k ≤ 9007199254740992) (hq : q = 0 ∨ 4503599627370496 ≤ k) : V (q * 4503599627370496 + k) = k * 2 ^ q := by
  unfold V
  by_cases h : q * 4503599627370496 + k < 4503599627370496
  · have : q = 0 := by omega
    subst this
    rw [if_pos h]; simp
  · rw [if_neg h]
    by_cases hk2 : k = 9007199254740992
    · subst hk2
      have e1 : (q * 4503599627370496 + 9007199254740992) % 4503599627370496 = 0 := by omega
      have e2 : (q * 4503599627370496 + 9007199254740992) / 4503599627370496 - 1 = q + 1 := by omega
      rw [e1, e2, Nat.pow_succ]; omega
    · by_cases hk3 : 4503599627370496 ≤ k
      · have e1 : (q * 4503599627370496 + k) % 4503599627370496 = k - 4503599627370496 := by omega
        have e2 : (q * 4503599627370496 + k) / 4503599627370496 - 1 = q := by omega
        rw [e1, e2, show 4503599627370496 + (k - 4503599627370496) = k from by omega]
      · have : q = 0 := by omega
        subst this; omega

theorem V_form (r : Nat) : ∃ q k, r = q * 4503599627370496 + k ∧ k < 9007199254740992 ∧ (q = 0 ∨ 4503599627370496 ≤ k) := by
  by_cases h : r < 9007199254740992
  · exact ⟨0, r, by omega, h, .inl rfl⟩
  · exact ⟨r / 4503599627370496 - 1, r % 4503599627370496 + 4503599627370496, by omega, by omega, .inr (by omega)⟩

theorem V_succ (r : Nat) : V r < V (r + 1) := by
  obtain ⟨q, k, rfl, hk, hq⟩ := V_form r
  rw [V_mk q k (by omega) hq, Nat.add_assoc, V_mk q (k + 1) (by omega) (by omega)]
  exact Nat.mul_lt_mul_of_pos_right (by omega) (Nat.two_pow_pos q)

theorem V_lt {r s : Nat} (h : r < s) : V r < V s := by
  induction s with
  | zero => omega
  | succ s ih =>
    by_cases e : r = s
    · subst e; exact V_succ r
    · exact Nat.lt_trans (ih (by omega)) (V_succ s)

theorem V_le {r s : Nat} (h : r ≤ s) : V r ≤ V s := by
  rcases Nat.lt_or_eq_of_le h with h | h
  · exact Nat.le_of_lt (V_lt h)
  · subst h; exact Nat.le_refl _

theorem V_lt_iff {r s : Nat} : V r < V s ↔ r < s :=
  ⟨fun h => by by_cases e : r < s; exact e; exact absurd (V_le (Nat.le_of_not_lt e)) (by omega), V_lt⟩
theorem V_le_iff {r s : Nat} : V r ≤ V s ↔ r ≤ s :=
  ⟨fun h => by by_cases e : r ≤ s; exact e; exact absurd (V_lt (Nat.lt_of_not_le e)) (by omega), V_le⟩
theorem V_inj {r s : Nat} (h : V r = V s) : r = s :=
  Nat.le_antisymm (V_le_iff.1 (by omega)) (V_le_iff.1 (by omega))
theorem V_zero : V 0 = 0 := rfl

/-- What 'cut' to the nearest gives: within a half. -/
theorem cut_even (neg : Bool) (n drop : Nat) : 2 * n ≤ (2 * Toward.even.cut neg n drop + 1) * 2 ^ drop ∧ 2 * Toward.even.cut neg n drop * 2 ^ drop ≤ 2 * n + 2 ^ drop := by
  unfold Toward.cut
  dsimp only
  have hlog : n < 2 ^ (n.log2 + 1) := by
    by_cases h0 : n = 0
    · subst h0; exact Nat.two_pow_pos _
    · exact (Nat.log2_lt h0).1 (Nat.lt_succ_self _)
  by_cases hd : drop ≤ n.log2 + 2
  · rw [Nat.min_eq_left hd, Nat.shiftLeft_eq, Nat.one_mul]
    have hp := Nat.two_pow_pos drop
    generalize 2 ^ drop = g at hp
    have hdm := Nat.div_add_mod n g
    have hm := Nat.mod_lt n hp
    generalize n / g = lo at hdm
    generalize n % g = re at hdm hm
    have e1 : (2 * lo + 1) * g = 2 * (g * lo) + g := by rw [Nat.add_mul, Nat.one_mul, Nat.mul_assoc, Nat.mul_comm lo g]
    have e2 : (2 * (lo + 1) + 1) * g = 2 * (g * lo) + 3 * g := by rw [Nat.add_mul, Nat.one_mul, Nat.mul_assoc, Nat.add_mul, Nat.mul_comm lo g]; omega
    have e3 : 2 * lo * g = 2 * (g * lo) := by rw [Nat.mul_assoc, Nat.mul_comm lo g]
    have e4 : 2 * (lo + 1) * g = 2 * (g * lo) + 2 * g := by rw [Nat.mul_assoc, Nat.add_mul, Nat.mul_comm lo g]; omega
    by_cases h1 : g < 2 * re
    · simp only [h1, decide_true, Bool.true_or, Bool.toNat_true]
      rw [e2, e4]; omega
    · by_cases h2 : g = 2 * re ∧ lo % 2 = 1
      · have hb : (decide (g < 2 * re) || (g == 2 * re && lo % 2 == 1)) = true := by simp [h2.1, h2.2]
        rw [hb]; simp only [Bool.toNat_true]; rw [e2, e4]; omega
      · have hb : (decide (g < 2 * re) || (g == 2 * re && lo % 2 == 1)) = false := by
          simp only [Bool.or_eq_false_iff, decide_eq_false_iff_not, Bool.and_eq_false_iff, beq_eq_false_iff_ne]
          refine ⟨h1, ?_⟩
          by_cases h3 : g = 2 * re
          · exact .inr fun h => h2 ⟨h3, h⟩
          · exact .inl h3
        rw [hb]; simp only [Bool.toNat_false, Nat.add_zero]; rw [e1, e3]; omega
  · rw [Nat.min_eq_right (by omega), Nat.shiftLeft_eq, Nat.one_mul]
    have hg : 2 * n < 2 ^ (n.log2 + 2) := by rw [Nat.pow_succ]; omega
    have hdr : 2 ^ (n.log2 + 2) ≤ 2 ^ drop := Nat.pow_le_pow_right (by omega) (by omega)
    generalize 2 ^ (n.log2 + 2) = g at hg hdr
    rw [Nat.div_eq_of_lt (by omega), Nat.mod_eq_of_lt (by omega)]
    have hb : (decide (g < 2 * n) || (g == 2 * n && 0 % 2 == 1)) = false := by simp; omega
    rw [hb]; simp only [Bool.toNat_false, Nat.add_zero, Nat.mul_zero, Nat.zero_mul, Nat.zero_add, Nat.one_mul]; omega

abbrev INF : Nat := 9218868437227405312
abbrev SGN : Nat := 9223372036854775808

theorem cut_neg (neg : Bool) (n drop : Nat) : Toward.even.cut neg n drop = Toward.even.cut false n drop := rfl

def nrung (mag : Nat) (place : Int) : Nat :=
  if mag = 0 then 0 else
  min ((max (place + mag.log2 - 52) (-1074) + 1074).toNat * 4503599627370496 + Toward.even.cut false (mag <<< (place - max (place + mag.log2 - 52) (-1074)).toNat) (max (place + mag.log2 - 52) (-1074) - place).toNat) INF

theorem double_leastPlace : double.leastPlace = -1074 := by decide
theorem double_fractionBits : double.fractionBits = 52 := rfl
theorem double_binade : double.binade = 4503599627370496 := by decide
theorem double_infRung : double.infRung = INF := by decide
theorem double_signWeight : double.signWeight = SGN := by decide

def word (neg : Bool) (r : Nat) : Nat := if neg then SGN + r else r

theorem nearest_eq (neg : Bool) (mag : Nat) (place : Int) : double.nearest neg mag place = word neg (nrung mag place) := by
  unfold Format.nearest nrung Format.word word
  rw [double_leastPlace, double_binade, double_infRung, double_signWeight, double_fractionBits]
  simp only [cut_neg neg]
  by_cases h : mag = 0
  · simp [h]
  · simp only [h, if_false]
    have e : (max (place + (mag.log2 : Int) - ((52 : Nat) : Int)) (-1074) - -1074 : Int) = max (place + (mag.log2 : Int) - 52) (-1074) + 1074 := by omega
    rw [e]; rfl

theorem nrung_le (mag : Nat) (place : Int) : nrung mag place ≤ INF := by
  unfold nrung; split
  · exact Nat.zero_le _
  · exact Nat.min_le_right _ _

theorem nrung_spec (mag u d : Nat) (place : Int) (hp : place = -1074 + u - d) (r : Nat) :
    (V r * 2 ^ d ≤ mag * 2 ^ u → r ≤ INF → r ≤ nrung mag place) ∧ (mag * 2 ^ u ≤ V r * 2 ^ d → nrung mag place ≤ r) := by
  by_cases h0 : mag = 0
  · subst h0
    unfold nrung; rw [if_pos rfl, Nat.zero_mul]
    refine ⟨fun h _ => ?_, fun _ => Nat.zero_le _⟩
    have hd := Nat.two_pow_pos d
    have : V r = 0 := by
      rcases Nat.eq_zero_or_pos (V r) with e | e
      · exact e
      · have := Nat.mul_le_mul e hd; omega
    exact Nat.le_of_eq (V_inj (by rw [this, V_zero]))
  · unfold nrung; rw [if_neg h0]
    generalize hl : max (place + (mag.log2 : Int) - 52) (-1074) = last
    have hq : ∃ q : Nat, last = (q : Int) - 1074 := ⟨(last + 1074).toNat, by omega⟩
    obtain ⟨q, rfl⟩ := hq
    have eq1 : ((q : Int) - 1074 + 1074).toNat = q := by omega
    rw [eq1]
    generalize ha : (place - ((q : Int) - 1074)).toNat = a
    generalize hb : ((q : Int) - 1074 - place).toNat = b
    have hub : u + b = a + d + q := by omega
    rw [Nat.shiftLeft_eq]
    obtain ⟨c1, c2⟩ := cut_even false (mag * 2 ^ a) b
    generalize hk : Toward.even.cut false (mag * 2 ^ a) b = k at c1 c2
    have hlo : 2 ^ mag.log2 ≤ mag := Nat.log2_self_le h0
    have hhi : mag < 2 ^ (mag.log2 + 1) := (Nat.log2_lt h0).1 (Nat.lt_succ_self _)
    -- the scaled number
    have key : mag * 2 ^ u * 2 ^ b = mag * 2 ^ a * (2 ^ q * 2 ^ d) := by
      rw [Nat.mul_assoc, ← Nat.pow_add, hub, Nat.mul_assoc, ← Nat.pow_add, ← Nat.pow_add]; congr 2; omega
    have pb := Nat.two_pow_pos b
    have pq := Nat.two_pow_pos q
    have pd := Nat.two_pow_pos d
    -- upper: 2E ≤ (2k+1) 2^q 2^d
    have up : 2 * (mag * 2 ^ u) ≤ (2 * k + 1) * (2 ^ q * 2 ^ d) := by
      refine Nat.le_of_mul_le_mul_right ?_ pb
      calc 2 * (mag * 2 ^ u) * 2 ^ b = 2 * (mag * 2 ^ a) * (2 ^ q * 2 ^ d) := by rw [Nat.mul_assoc, key, ← Nat.mul_assoc]
        _ ≤ (2 * k + 1) * 2 ^ b * (2 ^ q * 2 ^ d) := Nat.mul_le_mul_right _ c1
        _ = (2 * k + 1) * (2 ^ q * 2 ^ d) * 2 ^ b := by rw [Nat.mul_right_comm]
    have lo : 2 * k * (2 ^ q * 2 ^ d) ≤ 2 * (mag * 2 ^ u) + 2 ^ q * 2 ^ d := by
      refine Nat.le_of_mul_le_mul_right ?_ pb
      calc 2 * k * (2 ^ q * 2 ^ d) * 2 ^ b = 2 * k * 2 ^ b * (2 ^ q * 2 ^ d) := by rw [Nat.mul_right_comm]
        _ ≤ (2 * (mag * 2 ^ a) + 2 ^ b) * (2 ^ q * 2 ^ d) := Nat.mul_le_mul_right _ c2
        _ = (2 * (mag * 2 ^ u) + 2 ^ q * 2 ^ d) * 2 ^ b := by rw [Nat.add_mul, Nat.add_mul, Nat.mul_assoc 2, ← key, Nat.mul_assoc 2, Nat.mul_comm (2 ^ b)]
    -- the size of the kept digits
    have hk53 : k ≤ 9007199254740992 := by
      have hle : (mag.log2 : Int) + place ≤ (q : Int) - 1074 + 52 := by omega
      -- mag * 2^a < 2^53 * 2^b
      have h1 : mag * 2 ^ a < 9007199254740992 * 2 ^ b := by
        have : mag * 2 ^ a < 2 ^ (mag.log2 + 1) * 2 ^ a := Nat.mul_lt_mul_of_pos_right hhi (Nat.two_pow_pos a)
        have e : 9007199254740992 * 2 ^ b = 2 ^ (53 + b) := by rw [Nat.pow_add]
        rw [e]
        refine Nat.lt_of_lt_of_le this ?_
        rw [← Nat.pow_add]
        exact Nat.pow_le_pow_right (by omega) (by omega)
      have h2 : 2 * k * 2 ^ b < (2 * 9007199254740992 + 1) * 2 ^ b := by
        rw [Nat.add_mul, Nat.one_mul, Nat.mul_assoc]; rw [Nat.mul_assoc] at c2; rw [Nat.mul_assoc]; omega
      have := Nat.lt_of_mul_lt_mul_right h2
      omega
    have hsmall : mag * 2 ^ u < 9007199254740992 * (2 ^ q * 2 ^ d) := by
      have hle : (mag.log2 : Int) + place ≤ (q : Int) - 1074 + 52 := by omega
      have : mag * 2 ^ u < 2 ^ (mag.log2 + 1) * 2 ^ u := Nat.mul_lt_mul_of_pos_right hhi (Nat.two_pow_pos u)
      have e : 9007199254740992 * (2 ^ q * 2 ^ d) = 2 ^ (53 + q + d) := by rw [← Nat.pow_add, Nat.add_assoc, Nat.pow_add 2 53]
      rw [e]
      refine Nat.lt_of_lt_of_le this ?_
      rw [← Nat.pow_add]
      exact Nat.pow_le_pow_right (by omega) (by omega)
    have hbig : 0 < q → 4503599627370496 * (2 ^ q * 2 ^ d) ≤ mag * 2 ^ u := by
      intro hq0
      have hle : (q : Int) - 1074 + 52 ≤ (mag.log2 : Int) + place := by omega
      have e : 4503599627370496 * (2 ^ q * 2 ^ d) = 2 ^ (52 + q + d) := by rw [← Nat.pow_add, Nat.add_assoc, Nat.pow_add 2 52]
      rw [e]
      refine Nat.le_trans ?_ (Nat.mul_le_mul_right _ hlo)
      rw [← Nat.pow_add]
      exact Nat.pow_le_pow_right (by omega) (by omega)
    have hk52 : q = 0 ∨ 4503599627370496 ≤ k := by
      by_cases hq0 : q = 0
      · exact .inl hq0
      · right
        have := hbig (by omega)
        have h2 : 2 * 4503599627370496 * (2 ^ q * 2 ^ d) ≤ (2 * k + 1) * (2 ^ q * 2 ^ d) := by
          rw [Nat.mul_assoc]; omega
        have := Nat.le_of_mul_le_mul_right h2 (Nat.mul_pos pq pd)
        omega
    have hV : V (q * 4503599627370496 + k) = k * 2 ^ q := V_mk q k hk53 hk52
    have pg : 0 < 2 ^ q * 2 ^ d := Nat.mul_pos pq pd
    constructor
    · intro h hr
      refine Nat.le_min.2 ⟨?_, hr⟩
      refine Nat.le_of_not_lt fun hlt => ?_
      by_cases hk2 : k = 9007199254740992
      · have := V_lt hlt
        rw [hV] at this
        have h3 : k * 2 ^ q * 2 ^ d < V r * 2 ^ d := Nat.mul_lt_mul_of_pos_right this pd
        rw [Nat.mul_assoc, hk2] at h3; omega
      · have := V_le (show q * 4503599627370496 + (k + 1) ≤ r from by omega)
        rw [V_mk q (k + 1) (by omega) (by omega)] at this
        have h3 : (k + 1) * 2 ^ q * 2 ^ d ≤ V r * 2 ^ d := Nat.mul_le_mul_right _ this
        rw [Nat.mul_assoc, Nat.add_mul, Nat.one_mul] at h3
        rw [Nat.add_mul, Nat.one_mul, Nat.mul_assoc] at up
        omega
    · intro h
      refine Nat.le_trans (Nat.min_le_left _ _) ?_
      refine Nat.le_of_not_lt fun hlt => ?_
      by_cases hk2 : q = 0 ∨ 4503599627370496 < k
      · have := V_le (show r ≤ q * 4503599627370496 + (k - 1) from by omega)
        rw [V_mk q (k - 1) (by omega) (by omega)] at this
        have h3 : V r * 2 ^ d ≤ (k - 1) * 2 ^ q * 2 ^ d := Nat.mul_le_mul_right _ this
        by_cases hk0 : k = 0
        · subst hk0
          have : q = 0 := by omega
          subst this; omega
        · obtain ⟨m, rfl⟩ : ∃ m, k = m + 1 := ⟨k - 1, by omega⟩
          rw [show m + 1 - 1 = m from rfl, Nat.mul_assoc] at h3
          rw [Nat.mul_assoc, Nat.add_mul, Nat.one_mul] at lo
          omega
      · have hk3 : k = 4503599627370496 := by omega
        have hlt2 := V_lt hlt
        rw [hV, hk3] at hlt2
        have h3 : V r * 2 ^ d < 4503599627370496 * 2 ^ q * 2 ^ d := Nat.mul_lt_mul_of_pos_right hlt2 pd
        rw [Nat.mul_assoc] at h3
        have := hbig (by omega)
        omega

theorem V_rep (q : Nat) : ∀ k, k < 9007199254740992 → q ≤ 2045 → ∃ r, r < INF ∧ V r = k * 2 ^ q := by
  induction q with
  | zero => intro k hk _; exact ⟨k, by show k < 9218868437227405312; omega, by have := V_mk 0 k (by omega) (.inl rfl); simpa using this⟩
  | succ q ih =>
    intro k hk hq
    by_cases h : 4503599627370496 ≤ k
    · exact ⟨(q + 1) * 4503599627370496 + k, by show _ < 9218868437227405312; omega, V_mk _ _ (by omega) (.inr h)⟩
    · obtain ⟨r, hr, e⟩ := ih (2 * k) (by omega) (by omega)
      refine ⟨r, hr, ?_⟩
      rw [e, Nat.pow_succ, Nat.mul_comm (2 ^ q) 2, ← Nat.mul_assoc, Nat.mul_comm k 2]

def rg (x : Nat) : Nat := x % SGN
def ng (x : Nat) : Bool := x / SGN % 2 == 1
def num (x : Nat) : Prop := rg x ≤ INF
def fin (x : Nat) : Prop := rg x < INF
def val (x : Nat) : Int := if ng x then -(V (rg x) : Int) else (V (rg x) : Int)

theorem fin.num {x : Nat} (h : fin x) : num x := Nat.le_of_lt h

theorem rg_word (s : Bool) {r : Nat} (h : r < SGN) : rg (word s r) = r := by
  unfold rg word; simp only [SGN] at *; split <;> omega
theorem ng_word (s : Bool) {r : Nat} (h : r < SGN) : ng (word s r) = s := by
  unfold ng word
  cases s
  · simp only [Bool.false_eq_true, if_false]; rw [Nat.div_eq_of_lt h]; rfl
  · simp only [if_true]
    rw [show (SGN + r) / SGN = 1 from by simp only [SGN] at *; omega]; rfl
theorem word_lt (s : Bool) {r : Nat} (h : r < SGN) : word s r < 18446744073709551616 := by
  unfold word; simp only [SGN] at *; split <;> omega
theorem word_rg (x : Nat) (h : x < 18446744073709551616) : word (ng x) (rg x) = x := by
  unfold word ng rg
  by_cases hx : x < SGN
  · rw [Nat.div_eq_of_lt hx, Nat.mod_eq_of_lt hx]; rfl
  · rw [show x / SGN = 1 from by simp only [SGN] at *; omega]; simp only [SGN] at *; simp; omega
theorem INF_lt_SGN : INF < SGN := by decide

theorem val_word (s : Bool) {r : Nat} (h : r < SGN) : val (word s r) = if s then -(V r : Int) else (V r : Int) := by
  unfold val; rw [rg_word s h, ng_word s h]

theorem read_fin {x : Nat} (h : fin x) : ∃ m i, double.read x = .number (ng x) m i ∧ -1074 ≤ i ∧ V (rg x) = m * 2 ^ (i + 1074).toNat := by
  unfold Format.read
  rw [double_leastPlace, double_binade, double_infRung, double_signWeight]
  simp only
  have h' : x % SGN < INF := h
  by_cases h1 : x % SGN < 4503599627370496
  · rw [if_pos h1]
    refine ⟨_, _, rfl, by omega, ?_⟩
    show V (x % SGN) = _
    unfold V; rw [if_pos h1]; simp
  · rw [if_neg h1, if_pos h']
    refine ⟨_, _, rfl, by omega, ?_⟩
    show V (x % SGN) = _
    unfold V; rw [if_neg h1]
    congr 2; omega

theorem read_inf {x : Nat} (h : rg x = INF) : double.read x = .infinity (ng x) := by
  unfold Format.read
  rw [double_leastPlace, double_binade, double_infRung, double_signWeight]
  simp only
  have h' : x % SGN = INF := h
  rw [h', if_neg (by decide), if_neg (by decide), if_pos rfl]; rfl

theorem read_nan {x : Nat} (h : ¬ num x) : ∃ s t, double.read x = .nan s t := by
  unfold Format.read
  rw [double_leastPlace, double_binade, double_infRung, double_signWeight]
  simp only
  have h' : ¬ x % SGN ≤ INF := h
  simp only [INF] at h' ⊢
  rw [if_neg (by omega), if_neg (by omega), if_neg (by omega)]
  exact ⟨_, _, rfl⟩

theorem signed_eq (s : Bool) (m k : Nat) : signed s m k = if s then -((m * 2 ^ k : Nat) : Int) else ((m * 2 ^ k : Nat) : Int) := by
  unfold signed; rw [Nat.shiftLeft_eq]

theorem val_signed {x m : Nat} {i base : Int} (hb : -1074 ≤ base) (hbi : base ≤ i) (hV : V (rg x) = m * 2 ^ (i + 1074).toNat) :
    signed (ng x) m (i - base).toNat * (2 : Int) ^ (base + 1074).toNat = val x := by
  rw [signed_eq]
  unfold val
  have e : m * 2 ^ (i - base).toNat * 2 ^ (base + 1074).toNat = V (rg x) := by
    rw [hV, Nat.mul_assoc, ← Nat.pow_add]; congr 2; omega
  have e' : ((m * 2 ^ (i - base).toNat : Nat) : Int) * (2 : Int) ^ (base + 1074).toNat = (V (rg x) : Int) := by
    rw [← e, Int.natCast_mul (m * 2 ^ (i - base).toNat), Int.natCast_pow]; rfl
  cases ng x
  · simp only [Bool.false_eq_true, if_false]; exact e'
  · simp only [if_true]; rw [Int.neg_mul, e']

theorem pow_pos_int (k : Nat) : (0 : Int) < (2 : Int) ^ k := Int.pow_pos (by omega)

theorem compare_mul (a b c : Int) (hc : 0 < c) : compare (a * c) (b * c) = compare a b := by
  rcases Int.lt_trichotomy a b with h | h | h
  · rw [Int.compare_eq_lt.2 h, Int.compare_eq_lt.2 (Int.mul_lt_mul_of_pos_right h hc)]
  · subst h; rw [Int.compare_eq_eq.2 rfl, Int.compare_eq_eq.2 rfl]
  · rw [Int.compare_eq_gt.2 h, Int.compare_eq_gt.2 (Int.mul_lt_mul_of_pos_right h hc)]

theorem val_bound {x : Nat} (h : fin x) : val x < (V INF : Int) ∧ -(V INF : Int) < val x := by
  have h1 : V (rg x) < V INF := V_lt h
  unfold val; split <;> omega
theorem val_inf {x : Nat} (h : rg x = INF) : val x = if ng x then -(V INF : Int) else (V INF : Int) := by
  unfold val; rw [h]

theorem order_num {x y : Nat} (hx : num x) (hy : num y) : double.order x y = some (compare (val x) (val y)) := by
  unfold Format.order
  have pINF : 0 < V INF := by have := V_lt (show 0 < INF from by decide); omega
  rcases Nat.lt_or_eq_of_le hx with fx | ix
  · obtain ⟨m, i, e1, b1, v1⟩ := read_fin fx
    rcases Nat.lt_or_eq_of_le hy with fy | iy
    · obtain ⟨n, j, e2, b2, v2⟩ := read_fin fy
      rw [e1, e2]
      simp only [Datum.order]
      congr 1
      rw [← compare_mul _ _ _ (pow_pos_int (min i j + 1074).toNat), val_signed (by omega) (by omega) v1, val_signed (by omega) (by omega) v2]
    · rw [e1, read_inf iy]; simp only [Datum.order, val_inf iy]
      have := val_bound fx
      cases ng y
      · simp only [Bool.false_eq_true, if_false]; rw [Int.compare_eq_lt.2 this.1]
      · simp only [if_true]; rw [Int.compare_eq_gt.2 this.2]
  · rcases Nat.lt_or_eq_of_le hy with fy | iy
    · obtain ⟨n, j, e2, b2, v2⟩ := read_fin fy
      rw [e2, read_inf ix]; simp only [Datum.order, val_inf ix]
      have := val_bound fy
      cases ng x
      · simp only [Bool.false_eq_true, if_false]; rw [Int.compare_eq_gt.2 this.1]
      · simp only [if_true]; rw [Int.compare_eq_lt.2 this.2]
    · rw [read_inf ix, read_inf iy]; simp only [Datum.order, val_inf ix, val_inf iy]
      cases ng x <;> cases ng y <;> simp only [Bool.false_eq_true, if_false, if_true]
      · rw [Int.compare_eq_eq.2 rfl]; rfl
      · rw [Int.compare_eq_gt.2 (by omega)]; rfl
      · rw [Int.compare_eq_lt.2 (by omega)]; rfl
      · rw [Int.compare_eq_eq.2 rfl]; rfl

theorem order_nan_left {x y : Nat} (hx : ¬ num x) : double.order x y = none := by
  obtain ⟨s, t, e⟩ := read_nan hx
  unfold Format.order; rw [e]; cases double.read y <;> rfl
theorem order_nan_right {x y : Nat} (hy : ¬ num y) : double.order x y = none := by
  obtain ⟨s, t, e⟩ := read_nan hy
  unfold Format.order; rw [e]; cases double.read x <;> rfl

/-- 'r' is a rounding of E / 2^d (in units): it is a number, and it lies on the same side of every number as E / 2^d does. -/
structure Rd (E : Int) (d : Nat) (r : Nat) : Prop where
  isnum : num r
  lt : r < 18446744073709551616
  lo : ∀ z, num z → val z * (2 : Int) ^ d ≤ E → val z ≤ val r
  hi : ∀ z, num z → E ≤ val z * (2 : Int) ^ d → val r ≤ val z

theorem cast_pow (d : Nat) : ((2 ^ d : Nat) : Int) = (2 : Int) ^ d := by rw [Int.natCast_pow]; rfl

theorem cast_mul_pow (a d : Nat) : ((a * 2 ^ d : Nat) : Int) = (a : Int) * (2 : Int) ^ d := by rw [Int.natCast_mul, cast_pow]

theorem Rd_word (s : Bool) (mag : Nat) (place : Int) (u d : Nat) (hp : place = -1074 + u - d) (E : Int)
    (hE : E = if s then -((mag * 2 ^ u : Nat) : Int) else ((mag * 2 ^ u : Nat) : Int)) : Rd E d (word s (nrung mag place)) := by
  have hle := nrung_le mag place
  have hlt : nrung mag place < SGN := Nat.lt_of_le_of_lt hle INF_lt_SGN
  have pd := Nat.two_pow_pos d
  refine ⟨by unfold num; rw [rg_word s hlt]; exact hle, word_lt s hlt, ?_, ?_⟩
  · intro z hz hzE
    rw [val_word s hlt]
    have hs := nrung_spec mag u d place hp (rg z)
    rw [hE, ← cast_pow] at hzE
    unfold val at hzE ⊢
    cases s
    · simp only [Bool.false_eq_true, if_false] at hzE ⊢
      split
      · omega
      · rename_i hn
        rw [if_neg hn, ← Int.natCast_mul] at hzE
        have := V_le (hs.1 (by omega) hz)
        omega
    · simp only [if_true] at hzE ⊢
      split
      · rename_i hn
        rw [if_pos hn, Int.neg_mul, ← Int.natCast_mul] at hzE
        have := V_le (hs.2 (by omega))
        omega
      · rename_i hn
        rw [if_neg hn, ← Int.natCast_mul] at hzE
        have h0 : V (rg z) * 2 ^ d = 0 := by omega
        have h1 : mag * 2 ^ u = 0 := by omega
        have := V_le (hs.2 (by omega))
        have : V (rg z) = 0 := by
          rcases Nat.mul_eq_zero.1 h0 with e | e
          · exact e
          · omega
        omega
  · intro z hz hzE
    rw [val_word s hlt]
    have hs := nrung_spec mag u d place hp (rg z)
    rw [hE, ← cast_pow] at hzE
    unfold val at hzE ⊢
    cases s
    · simp only [Bool.false_eq_true, if_false] at hzE ⊢
      split
      · rename_i hn
        rw [if_pos hn, Int.neg_mul, ← Int.natCast_mul] at hzE
        have h0 : V (rg z) * 2 ^ d = 0 := by omega
        have h1 : mag * 2 ^ u = 0 := by omega
        have := V_le (hs.2 (by omega))
        have : V (rg z) = 0 := by
          rcases Nat.mul_eq_zero.1 h0 with e | e
          · exact e
          · omega
        omega
      · rename_i hn
        rw [if_neg hn, ← Int.natCast_mul] at hzE
        have := V_le (hs.2 (by omega))
        omega
    · simp only [if_true] at hzE ⊢
      split
      · rename_i hn
        rw [if_pos hn, Int.neg_mul, ← Int.natCast_mul] at hzE
        have := V_le (hs.1 (by omega) hz)
        omega
      · omega

theorem Rd.exact {E : Int} {d r z : Nat} (h : Rd E d r) (hz : num z) (e : val z * (2 : Int) ^ d = E) : val r = val z :=
  Int.le_antisymm (h.hi z hz (Int.le_of_eq e.symm)) (h.lo z hz (Int.le_of_eq e))

theorem sum_mag {s t : Bool} {T : Int} : T = if (if T = 0 then s && t else decide (T < 0)) then -((T.natAbs : Nat) : Int) else ((T.natAbs : Nat) : Int) := by
  by_cases h : T = 0
  · subst h; simp
  · rw [if_neg h]; by_cases h2 : T < 0 <;> simp [h2] <;> omega

theorem sum_fin {x y : Nat} {dy : Datum} (hx : fin x) (hy : fin y) (t : Bool) (hdy : ∃ n j, dy = .number t n j ∧ -1074 ≤ j ∧ V (rg y) = n * 2 ^ (j + 1074).toNat) :
    ∃ r, ((double.read x).sum dy).map double.write = some r ∧ Rd (val x + (if t then -(V (rg y) : Int) else (V (rg y) : Int))) 0 r := by
  obtain ⟨m, i, e1, b1, v1⟩ := read_fin hx
  obtain ⟨n, j, rfl, b2, v2⟩ := hdy
  rw [e1]
  simp only [Datum.sum, Option.map_some, Format.write, nearest_eq]
  refine ⟨_, rfl, ?_⟩
  have s1 := val_signed (base := min i j) (by omega) (by omega) v1
  have s2 : signed t n (j - min i j).toNat * (2 : Int) ^ (min i j + 1074).toNat = if t then -(V (rg y) : Int) else (V (rg y) : Int) := by
    rw [signed_eq]
    have e : n * 2 ^ (j - min i j).toNat * 2 ^ (min i j + 1074).toNat = V (rg y) := by
      rw [v2, Nat.mul_assoc, ← Nat.pow_add]; congr 2; omega
    have e' : ((n * 2 ^ (j - min i j).toNat : Nat) : Int) * (2 : Int) ^ (min i j + 1074).toNat = (V (rg y) : Int) := by
      rw [← e, Int.natCast_mul (n * 2 ^ (j - min i j).toNat), Int.natCast_pow]; rfl
    cases t
    · simp only [Bool.false_eq_true, if_false]; exact e'
    · simp only [if_true]; rw [Int.neg_mul, e']
  generalize hT : signed (ng x) m (i - min i j).toNat + signed t n (j - min i j).toNat = T
  have hTT : T * (2 : Int) ^ (min i j + 1074).toNat = val x + (if t then -(V (rg y) : Int) else (V (rg y) : Int)) := by
    rw [← hT, Int.add_mul, s1, s2]
  refine Rd_word _ _ _ (min i j + 1074).toNat 0 (by omega) _ ?_
  rw [← hTT, Int.natCast_mul, cast_pow]
  have hm := sum_mag (T := T) (s := ng x) (t := t)
  generalize (if T = 0 then ng x && t else decide (T < 0)) = bb at hm ⊢
  conv => lhs; rw [hm]
  cases bb <;> simp [Int.neg_mul]

theorem add_fin {x y : Nat} (hx : fin x) (hy : fin y) : ∃ r, double.add x y = some r ∧ Rd (val x + val y) 0 r := by
  obtain ⟨n, j, e2, b2, v2⟩ := read_fin hy
  exact sum_fin hx hy (ng y) ⟨n, j, e2, b2, v2⟩

theorem sub_fin {x y : Nat} (hx : fin x) (hy : fin y) : ∃ r, double.sub x y = some r ∧ Rd (val x - val y) 0 r := by
  obtain ⟨n, j, e2, b2, v2⟩ := read_fin hy
  obtain ⟨r, h1, h2⟩ := sum_fin (dy := (double.read y).opposite) hx hy (!ng y) ⟨n, j, by rw [e2]; rfl, b2, v2⟩
  refine ⟨r, h1, ?_⟩
  have : val x - val y = val x + (if (!ng y) then -(V (rg y) : Int) else (V (rg y) : Int)) := by
    show val x - (if ng y then -(V (rg y) : Int) else (V (rg y) : Int)) = _
    cases ng y <;> simp <;> omega
  rw [this]; exact h2

theorem mul_fin {x y : Nat} (hx : fin x) (hy : fin y) : ∃ r, double.mul x y = some r ∧ Rd (val x * val y) 1074 r := by
  obtain ⟨m, i, e1, b1, v1⟩ := read_fin hx
  obtain ⟨n, j, e2, b2, v2⟩ := read_fin hy
  unfold Format.mul
  rw [e1, e2]
  simp only [Datum.product, Option.map_some, Format.write, nearest_eq]
  refine ⟨_, rfl, ?_⟩
  refine Rd_word _ _ _ ((i + 1074).toNat + (j + 1074).toNat) 1074 (by omega) _ ?_
  have e : m * n * 2 ^ ((i + 1074).toNat + (j + 1074).toNat) = V (rg x) * V (rg y) := by
    rw [v1, v2, Nat.pow_add, Nat.mul_assoc, Nat.mul_assoc, Nat.mul_left_comm n]
  rw [e, Int.natCast_mul]
  unfold val
  cases ng x <;> cases ng y <;> simp [Int.neg_mul, Int.mul_neg]

/-- A small whole number's word. -/
theorem ofInt_val (n : Int) (h : n.natAbs < 9007199254740992) : val (double.write (.number (n < 0) n.natAbs 0)) = n * (2 : Int) ^ 1074 ∧ fin (double.write (.number (n < 0) n.natAbs 0)) ∧ double.write (.number (n < 0) n.natAbs 0) < 18446744073709551616 := by
  have hw : double.write (.number (n < 0) n.natAbs 0) = word (decide (n < 0)) (nrung n.natAbs 0) := nearest_eq _ _ _
  rw [hw]
  obtain ⟨r, hr, e⟩ := V_rep 1074 n.natAbs h (by omega)
  have hs := nrung_spec n.natAbs 1074 0 0 (by omega) r
  have e1 : nrung n.natAbs 0 = r := Nat.le_antisymm (hs.2 (by omega)) (hs.1 (by omega) (by omega))
  have hlt : r < SGN := Nat.lt_trans hr INF_lt_SGN
  rw [e1]
  refine ⟨?_, by unfold fin; rw [rg_word _ hlt]; exact hr, word_lt _ hlt⟩
  rw [val_word _ hlt, e]
  generalize 1074 = c
  by_cases h0 : n < 0
  · simp only [h0, decide_true, if_true]
    rw [cast_mul_pow, ← Int.neg_mul, Int.ofNat_natAbs_of_nonpos (Int.le_of_lt h0), Int.neg_neg]
  · simp only [h0, decide_false, Bool.false_eq_true, if_false]
    rw [cast_mul_pow, Int.natAbs_of_nonneg (Int.not_lt.1 h0)]

/-- 'd' is the datum of a finite word: to be cut to a whole number. -/
theorem cut_zero (s : Bool) (n drop : Nat) : Toward.zero.cut s n drop = n / 2 ^ drop := by
  unfold Toward.cut
  simp only [Bool.toNat_false, Nat.add_zero, Nat.shiftLeft_eq, Nat.one_mul]
  by_cases hd : drop ≤ n.log2 + 2
  · rw [Nat.min_eq_left hd]
  · rw [Nat.min_eq_right (by omega)]
    have hlog : n < 2 ^ (n.log2 + 1) := by
      by_cases h0 : n = 0
      · subst h0; exact Nat.two_pow_pos _
      · exact (Nat.log2_lt h0).1 (Nat.lt_succ_self _)
    have h1 : n < 2 ^ (n.log2 + 2) := by rw [Nat.pow_succ]; omega
    have h2 : n < 2 ^ drop := Nat.lt_of_lt_of_le h1 (Nat.pow_le_pow_right (by omega) (by omega))
    rw [Nat.div_eq_of_lt h1, Nat.div_eq_of_lt h2]

theorem cut_up (s : Bool) (n drop : Nat) : Toward.up.cut s n drop = n / 2 ^ drop + (!s && n % 2 ^ drop != 0).toNat := by
  unfold Toward.cut
  simp only [Nat.shiftLeft_eq, Nat.one_mul]
  by_cases hd : drop ≤ n.log2 + 2
  · rw [Nat.min_eq_left hd]
  · rw [Nat.min_eq_right (by omega)]
    have hlog : n < 2 ^ (n.log2 + 1) := by
      by_cases h0 : n = 0
      · subst h0; exact Nat.two_pow_pos _
      · exact (Nat.log2_lt h0).1 (Nat.lt_succ_self _)
    have h1 : n < 2 ^ (n.log2 + 2) := by rw [Nat.pow_succ]; omega
    have h2 : n < 2 ^ drop := Nat.lt_of_lt_of_le h1 (Nat.pow_le_pow_right (by omega) (by omega))
    rw [Nat.div_eq_of_lt h1, Nat.div_eq_of_lt h2, Nat.mod_eq_of_lt h1, Nat.mod_eq_of_lt h2]

/-- The units of one. -/
def C : Nat := 2 ^ 1074
theorem C_pos : 0 < C := by unfold C; generalize 1074 = k; exact Nat.two_pow_pos k

/-- The digits of a finite word, brought to whole ones: 'm << i' over '2 ^ -i', against its units. -/
theorem whole_of {x m : Nat} {i : Int} (b : -1074 ≤ i) (v : V (rg x) = m * 2 ^ (i + 1074).toNat) :
    (m <<< i.toNat) / 2 ^ (-i).toNat = V (rg x) / C ∧ ((m <<< i.toNat) % 2 ^ (-i).toNat = 0 ↔ V (rg x) % C = 0) := by
  have hC : ∀ a b, a + b = 1074 → C = 2 ^ a * 2 ^ b := fun a b h => by rw [← Nat.pow_add, h, C]
  have p0 := C_pos
  generalize C = C' at hC p0 ⊢
  rw [Nat.shiftLeft_eq, v]
  by_cases hi : 0 ≤ i
  · have e1 : (-i).toNat = 0 := by omega
    obtain ⟨z, hz⟩ : ∃ z, z = 1074 := ⟨_, rfl⟩
    have e2 : (i + 1074).toNat = i.toNat + z := by omega
    have e3 := hC 0 z (by omega)
    rw [Nat.pow_zero, Nat.one_mul] at e3
    rw [e1, e2, Nat.pow_add, ← e3, ← Nat.mul_assoc]
    generalize m * 2 ^ i.toNat = q
    clear e3
    refine ⟨by rw [Nat.mul_div_cancel _ p0]; simp, ?_⟩
    rw [Nat.mul_mod_left]; simp [Nat.mod_one]
  · have e1 : i.toNat = 0 := by omega
    obtain ⟨k, hk⟩ : ∃ k : Nat, (-i).toNat = k ∧ (i + 1074).toNat + k = 1074 := ⟨(-i).toNat, rfl, by omega⟩
    rw [e1, hk.1]
    rw [hC _ _ hk.2]
    have p := Nat.two_pow_pos (i + 1074).toNat
    generalize 2 ^ (i + 1074).toNat = c at p
    generalize 2 ^ k = g
    rw [Nat.pow_zero, Nat.mul_one, Nat.mul_comm m c]
    refine ⟨by rw [Nat.mul_div_mul_left _ _ p], ?_⟩
    rw [Nat.mul_mod_mul_left]
    constructor
    · intro h; rw [h, Nat.mul_zero]
    · intro h; rcases Nat.mul_eq_zero.1 h with h | h
      · omega
      · exact h

/-- 'int(x)' of a finite word: cut towards zero. -/
theorem toInt_fin {x : Nat} (h : fin x) : (double.read x).toInt .zero = some (if ng x then -((V (rg x) / C : Nat) : Int) else ((V (rg x) / C : Nat) : Int)) := by
  obtain ⟨m, i, e1, b1, v1⟩ := read_fin h
  rw [e1]
  simp only [Datum.toInt, Datum.integral, cut_zero, signed_eq, Nat.pow_zero, Nat.mul_one]
  rw [(whole_of b1 v1).1]

/-- The least whole number that is at least x, in whole numbers. -/
def ceilN (x : Nat) : Nat := V (rg x) / C + (!ng x && V (rg x) % C != 0).toNat

theorem ceil_read {x : Nat} (h : fin x) : (double.read x).integral .up = .number (ng x) (ceilN x) 0 := by
  obtain ⟨m, i, e1, b1, v1⟩ := read_fin h
  rw [e1]
  simp only [Datum.integral, cut_up]
  obtain ⟨w1, w2⟩ := whole_of b1 v1
  unfold ceilN
  rw [w1]
  congr 4
  rw [Bool.eq_iff_iff]; simp only [bne_iff_ne, ne_eq]
  exact not_congr w2

end Go.Proofs.Ytofjgnlolmaidaa.Fl
