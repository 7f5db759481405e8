/- Plain facts: what a gauge was told, as a list; the order of it changes nothing but the mean. -/
import Derived.Test.YtofjgnlolmaidaaGu
namespace Go.Proofs.Ytofjgnlolmaidaa
set_option linter.unusedVariables false
open Go.RowKit

def nm (x : Nat) : Bool := decide (Fl.num x)
theorem nm_iff {x : Nat} : nm x = true ↔ Fl.num x := by simp [nm]
def ixb (n : Nat) (bs : Nat → Nat) (x : Nat) : Nat := ixFrom bs x n 0

structure Told (n : Nat) (bs : Nat → Nat) (g : Gau) (L : List Nat) : Prop where
  hn : g.n = n
  hbs : g.bs = bs
  cs : ∀ i, g.cs i = (L.countP (fun x => nm x && ixb n bs x == i) : Nat)
  count : g.count = (L.countP nm : Nat)
  nans : g.nans = (L.countP (fun x => !nm x) : Nat)
  le0 : L.countP nm = 0 → g.least = 0
  le1 : 0 < L.countP nm → g.least ∈ L ∧ nm g.least = true
  le2 : ∀ x ∈ L, nm x = true → key g.least ≤ key x
  gr0 : L.countP nm = 0 → g.greatest = 0
  gr1 : 0 < L.countP nm → g.greatest ∈ L ∧ nm g.greatest = true
  gr2 : ∀ x ∈ L, nm x = true → key x ≤ key g.greatest

theorem told0 (n : Nat) (bs : Nat → Nat) : Told n bs (gau0 n bs) [] :=
  ⟨rfl, rfl, fun _ => rfl, rfl, rfl, fun _ => rfl, fun h => absurd h (Nat.lt_irrefl _), by simp, fun _ => rfl, fun h => absurd h (Nat.lt_irrefl _), by simp⟩

theorem none_num {L : List Nat} (h : L.countP nm = 0) {x : Nat} (hx : x ∈ L) : nm x = false := by
  have := List.countP_eq_zero.1 h x hx
  simpa using this

theorem Told.put {n : Nat} {bs : Nat → Nat} {g : Gau} {L : List Nat} (h : Told n bs g L) (x : Nat) : Told n bs (put g x) (x :: L) := by
  have hc := h.count
  by_cases hx : Fl.num x
  · have hn : nm x = true := nm_iff.2 hx
    have hcp : (x :: L).countP nm = L.countP nm + 1 := List.countP_cons_of_pos hn
    rw [put_num hx]
    refine ⟨h.hn, h.hbs, fun i => ?_, ?_, ?_, fun h0 => by omega, fun _ => ?_, ?_, fun h0 => by omega, fun _ => ?_, ?_⟩
    · have e : ix g x = ixb n bs x := by unfold ix ixb; rw [h.hbs, h.hn]
      simp only [e, h.cs]
      by_cases hi : i = ixb n bs x
      · rw [if_pos hi, List.countP_cons_of_pos (by simp [hn, hi])]; rfl
      · rw [if_neg hi, List.countP_cons_of_neg (by simp [hn]; omega)]
    · show g.count + 1 = _
      rw [hcp]; omega
    · show g.nans = _
      rw [List.countP_cons_of_neg (by simp [hn])]; exact h.nans
    · show leastOf g x ∈ _ ∧ _
      unfold leastOf
      split
      · exact ⟨by simp, hn⟩
      · rename_i hz
        have := h.le1 (by omega)
        exact ⟨List.mem_cons_of_mem _ this.1, this.2⟩
    · intro y hy hny
      show key (leastOf g x) ≤ key y
      unfold leastOf
      rcases List.mem_cons.1 hy with rfl | hy
      · split
        · exact Nat.le_refl _
        · omega
      · have := h.le2 y hy hny
        split
        · rename_i hz
          rcases hz with hz | hz
          · have := none_num (by omega) hy; rw [hny] at this; cases this
          · omega
        · exact this
    · show greatestOf g x ∈ _ ∧ _
      unfold greatestOf
      split
      · exact ⟨by simp, hn⟩
      · rename_i hz
        have := h.gr1 (by omega)
        exact ⟨List.mem_cons_of_mem _ this.1, this.2⟩
    · intro y hy hny
      show key y ≤ key (greatestOf g x)
      unfold greatestOf
      rcases List.mem_cons.1 hy with rfl | hy
      · split
        · exact Nat.le_refl _
        · omega
      · have := h.gr2 y hy hny
        split
        · rename_i hz
          rcases hz with hz | hz
          · have := none_num (by omega) hy; rw [hny] at this; cases this
          · omega
        · exact this
  · have hn : nm x = false := by simpa [nm] using hx
    have hcp : (x :: L).countP nm = L.countP nm := List.countP_cons_of_neg (by simp [hn])
    rw [put_nan hx]
    refine ⟨h.hn, h.hbs, fun i => ?_, ?_, ?_, fun h0 => h.le0 (by omega), fun h1 => ?_, ?_, fun h0 => h.gr0 (by omega), fun h1 => ?_, ?_⟩
    · rw [List.countP_cons_of_neg (by simp [hn])]; exact h.cs i
    · rw [hcp]; exact h.count
    · show g.nans + 1 = _
      rw [List.countP_cons_of_pos (by simp [hn]), h.nans]; rfl
    · have := h.le1 (by omega); exact ⟨List.mem_cons_of_mem _ this.1, this.2⟩
    · intro y hy hny
      rcases List.mem_cons.1 hy with rfl | hy
      · rw [hn] at hny; cases hny
      · exact h.le2 y hy hny
    · have := h.gr1 (by omega); exact ⟨List.mem_cons_of_mem _ this.1, this.2⟩
    · intro y hy hny
      rcases List.mem_cons.1 hy with rfl | hy
      · rw [hn] at hny; cases hny
      · exact h.gr2 y hy hny

theorem Told.merge {n : Nat} {bs : Nat → Nat} {g o : Gau} {L M : List Nat} (h : Told n bs g L) (k : Told n bs o M) : Told n bs (merge g o) (L ++ M) := by
  have hc := h.count
  have kc := k.count
  have hcp : (L ++ M).countP nm = L.countP nm + M.countP nm := List.countP_append
  refine ⟨h.hn, h.hbs, fun i => ?_, ?_, ?_, fun h0 => ?_, fun h1 => ?_, fun y hy hny => ?_, fun h0 => ?_, fun h1 => ?_, fun y hy hny => ?_⟩
  · show g.cs i + o.cs i = _
    rw [List.countP_append, h.cs, k.cs]; rfl
  · show g.count + o.count = _
    rw [hcp]; omega
  · show g.nans + o.nans = _
    rw [List.countP_append, h.nans, k.nans]; rfl
  · show (if 0 < o.count then widenL g o.least else g.least) = 0
    rw [if_neg (by omega)]; exact h.le0 (by omega)
  · show (if 0 < o.count then widenL g o.least else g.least) ∈ _ ∧ nm (if 0 < o.count then widenL g o.least else g.least) = true
    unfold widenL
    by_cases z : 0 < o.count
    · rw [if_pos z]
      have k1 := k.le1 (by omega)
      split
      · exact ⟨List.mem_append.2 (.inr k1.1), k1.2⟩
      · rename_i hz
        have h1 := h.le1 (by omega)
        exact ⟨List.mem_append.2 (.inl h1.1), h1.2⟩
    · rw [if_neg z]
      have h1 := h.le1 (by omega)
      exact ⟨List.mem_append.2 (.inl h1.1), h1.2⟩
  · show key (if 0 < o.count then widenL g o.least else g.least) ≤ _
    unfold widenL
    rcases List.mem_append.1 hy with hy | hy
    · have h2 := h.le2 y hy hny
      have h3 : 0 < L.countP nm := List.countP_pos_iff.2 ⟨y, hy, hny⟩
      split
      · split <;> omega
      · exact h2
    · have h2 := k.le2 y hy hny
      have h3 : 0 < M.countP nm := List.countP_pos_iff.2 ⟨y, hy, hny⟩
      rw [if_pos (by omega)]
      split <;> omega
  · show (if 0 < o.count then widenG g o.greatest else g.greatest) = 0
    rw [if_neg (by omega)]; exact h.gr0 (by omega)
  · show (if 0 < o.count then widenG g o.greatest else g.greatest) ∈ _ ∧ nm (if 0 < o.count then widenG g o.greatest else g.greatest) = true
    unfold widenG
    by_cases z : 0 < o.count
    · rw [if_pos z]
      have k1 := k.gr1 (by omega)
      split
      · exact ⟨List.mem_append.2 (.inr k1.1), k1.2⟩
      · rename_i hz
        have h1 := h.gr1 (by omega)
        exact ⟨List.mem_append.2 (.inl h1.1), h1.2⟩
    · rw [if_neg z]
      have h1 := h.gr1 (by omega)
      exact ⟨List.mem_append.2 (.inl h1.1), h1.2⟩
  · show _ ≤ key (if 0 < o.count then widenG g o.greatest else g.greatest)
    unfold widenG
    rcases List.mem_append.1 hy with hy | hy
    · have h2 := h.gr2 y hy hny
      have h3 : 0 < L.countP nm := List.countP_pos_iff.2 ⟨y, hy, hny⟩
      split
      · split <;> omega
      · exact h2
    · have h2 := k.gr2 y hy hny
      have h3 : 0 < M.countP nm := List.countP_pos_iff.2 ⟨y, hy, hny⟩
      rw [if_pos (by omega)]
      split <;> omega

theorem key_inj {x y : Nat} (lx : x < 18446744073709551616) (ly : y < 18446744073709551616) (hx : Fl.num x) (hy : Fl.num y) (h : key x = key y) : x = y := by
  unfold key at h
  rw [if_pos hx, if_pos hy] at h
  split at h <;> split at h <;> omega

/-- The same numbers told in another order: all but the mean is the same. -/
theorem Told.perm {n : Nat} {bs : Nat → Nat} {g o : Gau} {L M : List Nat} (h : Told n bs g L) (k : Told n bs o M) (p : L.Perm M) (hw : ∀ x ∈ L, x < 18446744073709551616) :
    g.cs = o.cs ∧ g.count = o.count ∧ g.nans = o.nans ∧ g.least = o.least ∧ g.greatest = o.greatest := by
  have hcp : L.countP nm = M.countP nm := p.countP_eq _
  refine ⟨funext fun i => ?_, ?_, ?_, ?_, ?_⟩
  · rw [h.cs, k.cs, p.countP_eq]
  · rw [h.count, k.count, hcp]
  · rw [h.nans, k.nans, p.countP_eq]
  · by_cases z : L.countP nm = 0
    · rw [h.le0 z, k.le0 (by omega)]
    · obtain ⟨a1, a2⟩ := h.le1 (by omega)
      obtain ⟨b1, b2⟩ := k.le1 (by omega)
      have c1 := h.le2 _ (p.mem_iff.2 b1) b2
      have c2 := k.le2 _ (p.mem_iff.1 a1) a2
      exact key_inj (hw _ a1) (hw _ (p.mem_iff.2 b1)) (nm_iff.1 a2) (nm_iff.1 b2) (by omega)
  · by_cases z : L.countP nm = 0
    · rw [h.gr0 z, k.gr0 (by omega)]
    · obtain ⟨a1, a2⟩ := h.gr1 (by omega)
      obtain ⟨b1, b2⟩ := k.gr1 (by omega)
      have c1 := h.gr2 _ (p.mem_iff.2 b1) b2
      have c2 := k.gr2 _ (p.mem_iff.1 a1) a2
      exact key_inj (hw _ a1) (hw _ (p.mem_iff.2 b1)) (nm_iff.1 a2) (nm_iff.1 b2) (by omega)
end Go.Proofs.Ytofjgnlolmaidaa
