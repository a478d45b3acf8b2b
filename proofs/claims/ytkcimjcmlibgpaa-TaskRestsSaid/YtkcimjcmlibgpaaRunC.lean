/-
  What comes of a Get where nobody else does anything: one list of facts for both ends of it. Conditions: the cells fit; the thread is there.
-/
import Derived.Test.YtkcimjcmlibgpaaLawG
namespace Go.Proofs.Ytkcimjcmlibgpaa

theorem words_set {m : MemS} {n z : Nat} {y : Int} : (m.cells.set z y).take n = (m.words n).set z y := by
  unfold MemS.words; rw [List.take_set]
theorem words_far {c : List Int} {n h : Nat} {x : Int} (hh : n ≤ h) : (c.set h x).take n = c.take n := by
  rw [List.take_set]
  exact List.set_eq_of_length_le (by rw [List.length_take]; omega)

/-- K steps, and it is over: either there was nothing, or what stood at the end is taken. -/
structure AloneK (n : Nat) (g0 : GetS) (m0 : MemS) (K : Nat) : Prop where
  before : ∀ k, k < K → (runG n g0 m0 k).1.phase = 0
  tries : (runG n g0 m0 K).1.tries = g0.tries
  log : ∀ k, k ≤ K → (runG n g0 m0 k).2.log.length = m0.log.length + k
  len : (runG n g0 m0 K).2.cells.length = m0.cells.length
  or : (K = 2 * n ∧ rowW (m0.words n) = [] ∧ (runG n g0 m0 K).1.phase = 2 ∧ (runG n g0 m0 K).1.value = g0.value ∧ (runG n g0 m0 K).2.cells = m0.cells) ∨
    (∃ z : Nat, K = 2 * n + 5 ∧ atR (rowW (m0.words n)) g0.en = (z : Int) ∧ z < n ∧ (runG n g0 m0 K).1.phase = 1 ∧ (runG n g0 m0 K).1.value = m0.at (n + z) ∧
      (runG n g0 m0 K).2.cells = (m0.cells.set z ((unpk (m0.at z)).taken.pack)).set (2 * n + g0.who) 0)

theorem alone_K {n : Nat} {g0 : GetS} (m0 : MemS) (h0 : Fresh n g0) (hf : Fits g0.cf n m0) (hw : g0.who < g0.cf.t) : ∃ K, AloneK n g0 m0 K := by
  have hn := hf.pos
  have hl := hf.len
  have hst : g0.snap.start < n := by rw [h0.sn]; exact startOf_lt _ hn
  rcases atR_mem (rowW (m0.words n)) g0.en with ⟨_, hr⟩ | ⟨z, hz, hm⟩
  · obtain ⟨a1, a2, a3, a4, a5, a6⟩ := alone_none m0 h0 hn (by omega) hst hr
    refine ⟨2 * n, fun k hk => (a1 k hk).1, a4, fun k hk => ?_, by rw [a5], .inl ⟨rfl, hr, a2, a3, a5⟩⟩
    rcases Nat.lt_or_ge k (2 * n) with h | h
    · exact (a1 k h).2.2
    · obtain rfl : k = 2 * n := by omega
      exact a6
  · have hzn := rowW_lt _ z hm
    rw [words_len m0 n (by omega)] at hzn
    obtain ⟨a1, a2, a3, a4, a5, a6⟩ := alone_some m0 h0 hn (by omega) hst z hz hzn
    refine ⟨2 * n + 5, fun k hk => (a1 k hk).1, a3, fun k hk => ?_, by rw [a5]; simp, .inr ⟨z, rfl, hz, hzn, a2, a4, a5⟩⟩
    rcases Nat.lt_or_ge k (2 * n + 5) with h | h
    · exact (a1 k h).2.2
    · obtain rfl : k = 2 * n + 5 := by omega
      exact a6

theorem AloneK.le {n : Nat} {g0 : GetS} {m0 : MemS} {K : Nat} (h : AloneK n g0 m0 K) : K ≤ 2 * n + 5 := by
  rcases h.or with ⟨e, _⟩ | ⟨_, e, _⟩ <;> omega

/-- The words behind it, what is in the places, the other cells. -/
theorem AloneK.words {n : Nat} {g0 : GetS} {m0 : MemS} {K : Nat} (h : AloneK n g0 m0 K) :
    (rowW (m0.words n) = [] ∧ (runG n g0 m0 K).2.words n = m0.words n) ∨ ∃ z : Nat, atR (rowW (m0.words n)) g0.en = (z : Int) ∧ z < n ∧ (runG n g0 m0 K).2.words n = (m0.words n).set z ((unpk (m0.at z)).taken.pack) := by
  rcases h.or with ⟨_, e, _, _, hc⟩ | ⟨z, _, e, hz, _, _, hc⟩
  · exact .inl ⟨e, by unfold MemS.words; rw [hc]⟩
  · refine .inr ⟨z, e, hz, ?_⟩
    show (runG n g0 m0 K).2.cells.take n = _
    rw [hc, words_far (by omega), words_set]
theorem AloneK.value {n : Nat} {g0 : GetS} {m0 : MemS} {K : Nat} (h : AloneK n g0 m0 K) (j : Nat) (h1 : n ≤ j) (h2 : j < 2 * n) : (runG n g0 m0 K).2.at j = m0.at j := by
  unfold MemS.at
  rcases h.or with ⟨_, _, _, _, hc⟩ | ⟨z, _, _, hz, _, _, hc⟩
  · rw [hc]
  · rw [hc, getD_set, if_neg (by omega), getD_set, if_neg (by omega)]
theorem AloneK.hazard {n : Nat} {g0 : GetS} {m0 : MemS} {K : Nat} (h : AloneK n g0 m0 K) (hl : 2 * n + g0.who < m0.cells.length) : (runG n g0 m0 K).2.at (2 * n + g0.who) = 0 ∨ (runG n g0 m0 K).2.at (2 * n + g0.who) = m0.at (2 * n + g0.who) := by
  unfold MemS.at
  rcases h.or with ⟨_, _, _, _, hc⟩ | ⟨z, _, _, hz, _, _, hc⟩
  · right; rw [hc]
  · left; rw [hc, getD_set, if_pos ⟨rfl, by simpa using hl⟩]

/-- What stands at an end: the first, or the last. -/
theorem atR_left {R : List Nat} {en : Int} {z : Nat} (he : en = 0) (h : atR R en = (z : Int)) : 0 < R.length ∧ R.getD 0 0 = z := by
  cases R with
  | nil => simp only [atR] at h; omega
  | cons a l => simp only [atR, if_pos he] at h; exact ⟨by simp, by simp; omega⟩
theorem atR_right {R : List Nat} {en : Int} {z : Nat} (he : en = 1) (h : atR R en = (z : Int)) : 0 < R.length ∧ R.getD (R.length - 1) 0 = z := by
  cases R with
  | nil => simp only [atR] at h; omega
  | cons a l =>
    simp only [atR, if_neg (show ¬ en = 0 by omega)] at h
    refine ⟨by simp, ?_⟩
    rw [List.getLast_eq_getElem] at h
    rw [List.getD_eq_getElem?_getD, List.getElem?_eq_getElem (by simp)]
    simp only [Option.getD_some]
    omega

end Go.Proofs.Ytkcimjcmlibgpaa
