/-
  The row as a window on the row that there was at first; a Get that is stepped on behind its end. No condition.
-/
import Derived.Test.YtkcimjcmlibgpaaRunC
namespace Go.Proofs.Ytkcimjcmlibgpaa

/-- R is what stands in R0 from off on, ln places. -/
structure Win (R0 : List Nat) (off ln : Nat) (R : List Nat) : Prop where
  le : off + ln ≤ R0.length
  eq : R = (R0.drop off).take ln

theorem Win.all (R : List Nat) : Win R 0 R.length R := ⟨by omega, by simp⟩
theorem Win.len {R0 R : List Nat} {off ln : Nat} (h : Win R0 off ln R) : R.length = ln := by rw [h.eq, List.length_take, List.length_drop]; have := h.le; omega
theorem Win.get {R0 R : List Nat} {off ln : Nat} (h : Win R0 off ln R) (k : Nat) (hk : k < ln) : R.getD k 0 = R0.getD (off + k) 0 := by
  rw [h.eq, List.getD_eq_getElem?_getD, List.getD_eq_getElem?_getD, List.getElem?_take_of_lt hk, List.getElem?_drop]
theorem Win.tail {R0 R : List Nat} {off ln : Nat} (h : Win R0 off ln R) (hl : 0 < ln) : Win R0 (off + 1) (ln - 1) (cutR R 0) := by
  refine ⟨by have := h.le; omega, ?_⟩
  unfold cutR
  rw [if_pos rfl, h.eq, ← List.drop_one, List.drop_take, List.drop_drop]
theorem Win.init {R0 R : List Nat} {off ln : Nat} (h : Win R0 off ln R) (hl : 0 < ln) : Win R0 off (ln - 1) (cutR R 1) := by
  refine ⟨by have := h.le; omega, ?_⟩
  unfold cutR
  rw [if_neg (by decide), List.dropLast_eq_take, h.len, h.eq, List.take_take]
  congr 1; omega
theorem Win.first {R0 R : List Nat} {off ln : Nat} (h : Win R0 off ln R) {z : Nat} (hz : atR R 0 = (z : Int)) : 0 < ln ∧ R0.getD off 0 = z := by
  obtain ⟨h1, h2⟩ := atR_left rfl hz
  rw [h.len] at h1
  rw [h.get 0 h1] at h2
  exact ⟨h1, h2⟩
theorem Win.last {R0 R : List Nat} {off ln : Nat} (h : Win R0 off ln R) {z : Nat} (hz : atR R 1 = (z : Int)) : 0 < ln ∧ R0.getD (off + (ln - 1)) 0 = z := by
  obtain ⟨h1, h2⟩ := atR_right rfl hz
  rw [h.len] at h1 h2
  rw [h.get (ln - 1) (by omega)] at h2
  exact ⟨h1, h2⟩
theorem Win.nil {R0 R : List Nat} {off ln : Nat} (h : Win R0 off ln R) : R = [] ↔ ln = 0 := by
  rw [← List.length_eq_zero_iff, h.len]

theorem step_log_le (n : Nat) (g : GetS) (m : MemS) : (g.step n m).2.log.length ≤ m.log.length + 1 := by
  unfold GetS.step
  split
  · simp
  · cases g.take with
    | none =>
      simp only
      unfold SnapS.step
      split
      · simp
      · rw [ld_log]; exact Nat.le_refl _
    | some t =>
      simp only
      unfold TakeS.step
      repeat' split
      all_goals simp [MemS.put, MemS.ld]
theorem runG_log_le (n : Nat) (g : GetS) (m : MemS) (k : Nat) : (runG n g m k).2.log.length ≤ m.log.length + k := by
  induction k with
  | zero => simp [runG]
  | succ k ih => rw [runG_succ]; have := step_log_le n (runG n g m k).1 (runG n g m k).2; omega

theorem step_cf (n : Nat) (g : GetS) (m : MemS) : (g.step n m).1.cf = g.cf := by
  unfold GetS.step
  split
  · rfl
  · cases g.take with
    | none =>
      simp only
      split
      · unfold GetS.chosen; split <;> rfl
      · rfl
    | some t =>
      simp only
      repeat' split
      all_goals rfl
theorem runG_cf (n : Nat) (g : GetS) (m : MemS) (k : Nat) : (runG n g m k).1.cf = g.cf := by
  induction k with
  | zero => rfl
  | succ k ih => rw [runG_succ, step_cf, ih]

theorem AloneK.over {n : Nat} {g0 : GetS} {m0 : MemS} {K : Nat} (h : AloneK n g0 m0 K) : (runG n g0 m0 K).1.phase ≠ 0 := by
  rcases h.or with ⟨_, _, e, _⟩ | ⟨_, _, _, _, e, _⟩ <;> omega
theorem AloneK.stay {n : Nat} {g0 : GetS} {m0 : MemS} {K : Nat} (h : AloneK n g0 m0 K) (j : Nat) (hj : K ≤ j) : runG n g0 m0 j = runG n g0 m0 K := by
  obtain ⟨d, rfl⟩ : ∃ d, j = K + d := ⟨j - K, by omega⟩
  rw [runG_add, runG_over _ _ _ h.over]

/-- What comes of 2 n + 5 steps, of a window of the row. -/
theorem AloneK.win {n : Nat} {g0 : GetS} {m0 : MemS} {K : Nat} (h : AloneK n g0 m0 K) {R0 : List Nat} {off ln : Nat} (hw : Win R0 off ln (rowW (m0.words n))) (hen : g0.en = 0 ∨ g0.en = 1) :
    (ln = 0 ∧ (runG n g0 m0 (2 * n + 5)).1.phase = 2 ∧ (runG n g0 m0 (2 * n + 5)).1.value = g0.value ∧ Win R0 off ln (rowW ((runG n g0 m0 (2 * n + 5)).2.words n))) ∨
    (∃ z : Nat, 0 < ln ∧ z < n ∧ R0.getD (if g0.en = 0 then off else off + (ln - 1)) 0 = z ∧ (runG n g0 m0 (2 * n + 5)).1.phase = 1 ∧ (runG n g0 m0 (2 * n + 5)).1.value = (runG n g0 m0 (2 * n + 5)).2.at (n + z) ∧
      Win R0 (if g0.en = 0 then off + 1 else off) (ln - 1) (rowW ((runG n g0 m0 (2 * n + 5)).2.words n))) := by
  rw [h.stay _ h.le]
  rcases h.words with ⟨hr, hW⟩ | ⟨z, hz, hzn, hW⟩
  · left
    rcases h.or with ⟨_, _, hp, hv, _⟩ | ⟨z, _, hz, _⟩
    · exact ⟨hw.nil.1 hr, hp, hv, by rw [hW]; exact hw⟩
    · rw [hr] at hz; simp only [atR] at hz; omega
  · right
    rcases h.or with ⟨_, hr, _⟩ | ⟨z2, _, hz2, _, hp, hv, _⟩
    · rw [hr] at hz; simp only [atR] at hz; omega
    · obtain rfl : z = z2 := by omega
      have hval := h.value (n + z) (by omega) (by omega)
      have hcut := rowW_taken (m0.words n) g0.en z (m0.at z) hz
      rcases hen with he | he
      · rw [he] at hz hcut
        obtain ⟨h1, h2⟩ := hw.first hz
        refine ⟨z, h1, hzn, by rw [if_pos he]; exact h2, hp, by rw [hv, hval], ?_⟩
        rw [if_pos he, hW, hcut]
        exact hw.tail h1
      · rw [he] at hz hcut
        obtain ⟨h1, h2⟩ := hw.last hz
        refine ⟨z, h1, hzn, by rw [if_neg (by omega)]; exact h2, hp, by rw [hv, hval], ?_⟩
        rw [if_neg (by omega), hW, hcut]
        exact hw.init h1

/-- From wherever it begins, the same comes of it. -/
theorem alone_same {n : Nat} {ga gb : GetS} {m0 : MemS} {K1 K2 : Nat} (h1 : AloneK n ga m0 K1) (h2 : AloneK n gb m0 K2) (he : ga.en = gb.en) (hv : ga.value = gb.value) :
    (runG n ga m0 (2 * n + 5)).2.words n = (runG n gb m0 (2 * n + 5)).2.words n ∧ (runG n ga m0 (2 * n + 5)).1.phase = (runG n gb m0 (2 * n + 5)).1.phase ∧ (runG n ga m0 (2 * n + 5)).1.phase ≠ 0 ∧ (runG n ga m0 (2 * n + 5)).1.value = (runG n gb m0 (2 * n + 5)).1.value := by
  rw [h1.stay _ h1.le, h2.stay _ h2.le]
  have a1 := h1.words
  have a2 := h2.words
  rw [← he] at a2
  rcases h1.or with ⟨_, r1, p1, v1, _⟩ | ⟨z1, _, r1, _, p1, v1, _⟩
  · rcases h2.or with ⟨_, r2, p2, v2, _⟩ | ⟨z2, _, r2, _⟩
    · refine ⟨?_, by rw [p1, p2], h1.over, by rw [v1, v2, hv]⟩
      rcases a1 with ⟨_, a1⟩ | ⟨z, a1, _⟩
      · rcases a2 with ⟨_, a2⟩ | ⟨z, a2, _⟩
        · rw [a1, a2]
        · rw [r1] at a2; simp only [atR] at a2; omega
      · rw [r1] at a1; simp only [atR] at a1; omega
    · rw [r1] at r2; simp only [atR] at r2; omega
  · rcases h2.or with ⟨_, r2, _⟩ | ⟨z2, _, r2, _, p2, v2, _⟩
    · rw [r2] at r1; simp only [atR] at r1; omega
    · rw [← he] at r2
      obtain rfl : z1 = z2 := by omega
      refine ⟨?_, by rw [p1, p2], h1.over, by rw [v1, v2]⟩
      rcases a1 with ⟨a1, _⟩ | ⟨z, a1, _, b1⟩
      · rw [a1] at r1; simp only [atR] at r1; omega
      · rcases a2 with ⟨a2, _⟩ | ⟨z', a2, _, b2⟩
        · rw [a2] at r1; simp only [atR] at r1; omega
        · obtain rfl : z = z' := by omega
          rw [b1, b2]

end Go.Proofs.Ytkcimjcmlibgpaa
