/-
  A Get where nobody else does anything, in plain numbers: all words are read twice, then what stands at the end is taken. Conditions: the cells fit; the thread is there.
-/
import Derived.Test.YtkcimjcmlibgpaaSep
namespace Go.Proofs.Ytkcimjcmlibgpaa

theorem ld_at (m : MemS) (who k j : Nat) : (m.ld who k).at j = m.at j := by unfold MemS.at; rw [ld_cells]
theorem ld_log (m : MemS) (who k : Nat) : (m.ld who k).log.length = m.log.length + 1 := by simp [MemS.ld, MemS.put]
theorem getD_set {α : Type} (l : List α) (k j : Nat) (x d : α) : (l.set k x).getD j d = if j = k ∧ k < l.length then x else l.getD j d := by
  rw [List.getD_eq_getElem?_getD, List.getD_eq_getElem?_getD, List.getElem?_set]
  by_cases h : k = j
  · subst h
    by_cases h2 : k < l.length
    · simp [h2]
    · simp [h2]
  · simp [h, Ne.symm h]
theorem put_at (m : MemS) (who op : Int) (k j : Nat) (x : Int) (ok : Bool) (h : k < m.cells.length) : (m.put who op k x ok).at j = if j = k then x else m.at j := by
  unfold MemS.at MemS.put
  simp only [getD_set, h, and_true]

/-- The words of all places. -/
def MemS.words (m : MemS) (n : Nat) : List Int := m.cells.take n
theorem words_len (m : MemS) (n : Nat) (h : n ≤ m.cells.length) : (m.words n).length = n := by simp [MemS.words]; omega
theorem words_at (m : MemS) (n k : Nat) (h : k < n) : (m.words n).getD k 0 = m.at k := by
  unfold MemS.words MemS.at
  rw [List.getD_eq_getElem?_getD, List.getD_eq_getElem?_getD, List.getElem?_take_of_lt h]

/-- The first j places, from where it began, hold what the cells are. -/
def Seen (n : Nat) (m : MemS) (s : SnapS) (j : Nat) : Prop := ∀ i, i < j → s.words.getD ((s.start + i) % n) 0 = m.at ((s.start + i) % n)

theorem seen_all {n : Nat} {m : MemS} {s : SnapS} (h : Seen n m s n) (hst : s.start < n) (hl : s.words.length = n) (hc : n ≤ m.cells.length) : s.words = m.words n := by
  apply List.ext_getElem
  · rw [words_len m n hc, hl]
  · intro z h1 h2
    have hz : z < n := by omega
    obtain ⟨i, hi, he⟩ : ∃ i, i < n ∧ (s.start + i) % n = z := by
      by_cases hc : s.start ≤ z
      · exact ⟨z - s.start, by omega, by rw [show s.start + (z - s.start) = z by omega]; exact Nat.mod_eq_of_lt hz⟩
      · exact ⟨z + n - s.start, by omega, by rw [show s.start + (z + n - s.start) = z + n by omega, Nat.add_mod_right]; exact Nat.mod_eq_of_lt hz⟩
    have e := h i hi
    rw [he] at e
    rw [← words_at m n z hz, List.getD_eq_getElem?_getD, List.getD_eq_getElem?_getD, List.getElem?_eq_getElem h1, List.getElem?_eq_getElem h2] at e
    exact e

theorem seen_set {n : Nat} {m : MemS} {s : SnapS} {j : Nat} (h : Seen n m s j) (hl : s.words.length = n) (hn : 0 < n) : ∀ i, i < j + 1 → (s.words.set ((s.start + j) % n) (m.at ((s.start + j) % n))).getD ((s.start + i) % n) 0 = m.at ((s.start + i) % n) := by
  intro i hi
  have hlt : (s.start + j) % n < s.words.length := by rw [hl]; exact Nat.mod_lt _ hn
  rw [getD_set]
  by_cases he : (s.start + i) % n = (s.start + j) % n
  · rw [if_pos ⟨he, hlt⟩, he]
  · rw [if_neg (fun h => he h.1)]
    refine h i ?_
    rcases Nat.lt_or_ge i j with h | h
    · exact h
    · have : i = j := by omega
      subst this; exact absurd rfl he

/-- A Get that has read c words, since it began anew among the cells m0. -/
structure Mid (n : Nat) (g0 : GetS) (m0 : MemS) (c : Nat) (g : GetS) (m : MemS) : Prop where
  cells : m.cells = m0.cells
  log : m.log.length = m0.log.length + c
  gg : g = { g0 with snap := g.snap }
  ss : g.snap = { g0.snap with k := g.snap.k, pass := g.snap.pass, same := g.snap.same, words := g.snap.words }
  wl : g.snap.words.length = n
  cc : c = g.snap.pass * n + g.snap.k
  kk : g.snap.k < n
  pp : (g.snap.pass = 0 ∧ Seen n m0 g.snap g.snap.k ∧ (0 < g.snap.k → g.snap.same = false)) ∨ (g.snap.pass = 1 ∧ g.snap.words = m0.words n ∧ (0 < g.snap.k → g.snap.same = true))

structure Fresh (n : Nat) (g : GetS) : Prop where
  ph : g.phase = 0
  tk : g.take = none
  sn : g.snap = snap0 g.cf g.who n g.start

theorem Fresh.mid {n : Nat} {g : GetS} (h : Fresh n g) (m : MemS) (hn : 0 < n) : Mid n g m 0 g m := by
  refine ⟨rfl, rfl, rfl, rfl, ?_, ?_, ?_, .inl ⟨?_, ?_, ?_⟩⟩ <;> rw [h.sn]
  · simp [snap0]
  · simp [snap0]
  · simpa [snap0] using hn
  · rfl
  · intro i hi; simp [snap0] at hi
  · simp [snap0]

theorem mod_lt_len {n a : Nat} {m : MemS} (hn : 0 < n) (hc : n ≤ m.cells.length) : a % n < m.cells.length := Nat.lt_of_lt_of_le (Nat.mod_lt _ hn) hc

theorem Mid.step {n : Nat} {g0 g : GetS} {m0 m : MemS} {c : Nat} (h : Mid n g0 m0 c g m) (h0 : Fresh n g0) (hn : 0 < n) (hc : n ≤ m0.cells.length) (hst : g0.snap.start < n) :
    (c + 1 < 2 * n → Mid n g0 m0 (c + 1) (g.step n m).1 (g.step n m).2 ∧ (g.step n m).1.phase = 0 ∧ (g.step n m).1.take = none) ∧
    (c + 1 = 2 * n → ∃ s', (g.step n m).1 = ({ g0 with snap := s' } : GetS).chosen ∧ s'.words = m0.words n ∧ (g.step n m).2.cells = m0.cells ∧ (g.step n m).2.log.length = m0.log.length + (c + 1)) := by
  obtain ⟨e1, e2, e3, e4, e5, e6, e7, e8⟩ := h
  obtain ⟨f1, f2, f3⟩ := h0
  obtain ⟨cf, who, en, start, snap, take, tries, value, phase⟩ := g
  obtain ⟨cf0, who0, en0, start0, snap', take0', tries0, value0, phase0⟩ := g0
  simp only at f1 f2 f3
  subst f1 f2
  simp only [GetS.mk.injEq] at e3
  obtain ⟨rfl, rfl, rfl, rfl, -, rfl, rfl, rfl, rfl⟩ := e3
  simp only at e4 e5 e6 e7 e8 hst
  have hsp : snap.phase = 0 := by rw [e4]; simp only; rw [f3]; rfl
  have hss : snap.start = snap'.start := by rw [e4]
  rw [← hss] at hst
  have hat : ∀ j, m.at j = m0.at j := fun j => by unfold MemS.at; rw [e1]
  have hstep : snap.step n m = (snap.fin n ((snap.start + snap.k) % n) (m0.at ((snap.start + snap.k) % n)) ((if snap.k = 0 then decide (0 < snap.pass) else snap.same) && (m0.at ((snap.start + snap.k) % n) == snap.words.getD ((snap.start + snap.k) % n) 0)), m.ld snap.who ((snap.start + snap.k) % n)) := by
    unfold SnapS.step SnapS.sl
    rw [if_neg (by omega), hat]
  have hm1 : ∀ k, (m.ld snap.who k).cells = m0.cells := fun k => by rw [ld_cells, e1]
  have hm2 : ∀ k, (m.ld snap.who k).log.length = m0.log.length + (c + 1) := fun k => by rw [ld_log, e2]; omega
  rcases e8 with ⟨p0, p1, p2⟩ | ⟨p0, p1, p2⟩
  · -- the first time
    have hb : ((if snap.k = 0 then decide (0 < snap.pass) else snap.same) && (m0.at ((snap.start + snap.k) % n) == snap.words.getD ((snap.start + snap.k) % n) 0)) = false := by
      by_cases hk : snap.k = 0
      · simp [hk, p0]
      · simp [hk, p2 (by omega)]
    rw [hb] at hstep
    have hseen := seen_set (s := snap) p1 e5 hn
    have hc2 : c + 1 < 2 * n := by rw [e6, p0]; omega
    refine ⟨fun _ => ?_, fun h => by omega⟩
    by_cases hk : snap.k + 1 < n
    · have hf : snap.step n m = ({ snap with k := snap.k + 1, same := false, words := snap.words.set ((snap.start + snap.k) % n) (m0.at ((snap.start + snap.k) % n)) }, m.ld snap.who ((snap.start + snap.k) % n)) := by
        rw [hstep]; simp [SnapS.fin, hk]
      have hg : GetS.step n ⟨cf, who, en, start, snap, none, tries, value, 0⟩ m = (⟨cf, who, en, start, { snap with k := snap.k + 1, same := false, words := snap.words.set ((snap.start + snap.k) % n) (m0.at ((snap.start + snap.k) % n)) }, none, tries, value, 0⟩, m.ld snap.who ((snap.start + snap.k) % n)) := by
        simp [GetS.step, hf, hsp]
      rw [hg]
      refine ⟨⟨hm1 _, hm2 _, rfl, ?_, by simp [e5], by simp only; rw [e6]; omega, hk, .inl ⟨p0, hseen, fun _ => rfl⟩⟩, rfl, rfl⟩
      simp only; rw [e4]
    · have hkn : snap.k + 1 = n := by omega
      have hf : snap.step n m = ({ snap with k := 0, pass := snap.pass + 1, same := false, words := snap.words.set ((snap.start + snap.k) % n) (m0.at ((snap.start + snap.k) % n)), phase := 0 }, m.ld snap.who ((snap.start + snap.k) % n)) := by
        rw [hstep]; simp [SnapS.fin, hk]
      have hg : GetS.step n ⟨cf, who, en, start, snap, none, tries, value, 0⟩ m = (⟨cf, who, en, start, { snap with k := 0, pass := snap.pass + 1, same := false, words := snap.words.set ((snap.start + snap.k) % n) (m0.at ((snap.start + snap.k) % n)), phase := 0 }, none, tries, value, 0⟩, m.ld snap.who ((snap.start + snap.k) % n)) := by
        simp [GetS.step, hf]
      rw [hg]
      refine ⟨⟨hm1 _, hm2 _, rfl, ?_, by simp [e5], by simp only; rw [e6, p0]; omega, hn, .inr ⟨by simp [p0], ?_, by simp⟩⟩, rfl, rfl⟩
      · simp only; rw [e4]; simp only; rw [f3]; rfl
      · rw [hkn] at hseen
        exact seen_all (s := { snap with words := snap.words.set ((snap.start + snap.k) % n) (m0.at ((snap.start + snap.k) % n)) }) hseen hst (by simp [e5]) hc
  · -- once more
    have hsl : (snap.start + snap.k) % n < n := Nat.mod_lt _ hn
    have hw : snap.words.getD ((snap.start + snap.k) % n) 0 = m0.at ((snap.start + snap.k) % n) := by rw [p1, words_at _ _ _ hsl]
    have hset : snap.words.set ((snap.start + snap.k) % n) (m0.at ((snap.start + snap.k) % n)) = snap.words := by
      rw [← hw]
      apply List.ext_getElem
      · simp
      · intro i h1 h2
        rw [List.getElem_set]
        split
        · rename_i h; subst h; rw [List.getD_eq_getElem?_getD, List.getElem?_eq_getElem h2]; rfl
        · rfl
    have hb : ((if snap.k = 0 then decide (0 < snap.pass) else snap.same) && (m0.at ((snap.start + snap.k) % n) == snap.words.getD ((snap.start + snap.k) % n) 0)) = true := by
      rw [hw]
      by_cases hk : snap.k = 0
      · simp [hk, p0]
      · simp [hk, p2 (by omega)]
    rw [hb] at hstep
    have hc1 : c = n + snap.k := by rw [e6, p0]; omega
    by_cases hk : snap.k + 1 < n
    · have hf : snap.step n m = ({ snap with k := snap.k + 1, same := true }, m.ld snap.who ((snap.start + snap.k) % n)) := by
        rw [hstep]; simp [SnapS.fin, hk, hset]
      have hg : GetS.step n ⟨cf, who, en, start, snap, none, tries, value, 0⟩ m = (⟨cf, who, en, start, { snap with k := snap.k + 1, same := true }, none, tries, value, 0⟩, m.ld snap.who ((snap.start + snap.k) % n)) := by
        simp [GetS.step, hf, hsp]
      rw [hg]
      refine ⟨fun _ => ⟨⟨hm1 _, hm2 _, rfl, ?_, e5, by simp only; rw [e6]; omega, hk, .inr ⟨p0, p1, fun _ => rfl⟩⟩, rfl, rfl⟩, fun h => by omega⟩
      simp only; rw [e4]
    · have hf : snap.step n m = ({ snap with k := 0, pass := snap.pass + 1, same := true, phase := 1 }, m.ld snap.who ((snap.start + snap.k) % n)) := by
        rw [hstep]; simp [SnapS.fin, hk, hset]
      have hg : GetS.step n ⟨cf, who, en, start, snap, none, tries, value, 0⟩ m = ((⟨cf, who, en, start, { snap with k := 0, pass := snap.pass + 1, same := true, phase := 1 }, none, tries, value, 0⟩ : GetS).chosen, m.ld snap.who ((snap.start + snap.k) % n)) := by
        simp [GetS.step, hf]
      rw [hg]
      exact ⟨fun h => by omega, fun _ => ⟨_, rfl, p1, hm1 _, hm2 _⟩⟩

theorem runG_mid {n : Nat} {g0 : GetS} (m0 : MemS) (h0 : Fresh n g0) (hn : 0 < n) (hc : n ≤ m0.cells.length) (hst : g0.snap.start < n) :
    ∀ c, c < 2 * n → Mid n g0 m0 c (runG n g0 m0 c).1 (runG n g0 m0 c).2 ∧ (runG n g0 m0 c).1.phase = 0 ∧ (runG n g0 m0 c).1.take = none := by
  intro c
  induction c with
  | zero => intro _; exact ⟨h0.mid m0 hn, h0.ph, h0.tk⟩
  | succ c ih =>
    intro h
    exact ((ih (by omega)).1.step h0 hn hc hst).1 h

/-- Behind all was read twice. -/
theorem runG_read {n : Nat} {g0 : GetS} (m0 : MemS) (h0 : Fresh n g0) (hn : 0 < n) (hc : n ≤ m0.cells.length) (hst : g0.snap.start < n) :
    ∃ s', (runG n g0 m0 (2 * n)).1 = ({ g0 with snap := s' } : GetS).chosen ∧ s'.words = m0.words n ∧ (runG n g0 m0 (2 * n)).2.cells = m0.cells ∧ (runG n g0 m0 (2 * n)).2.log.length = m0.log.length + 2 * n := by
  have h := ((runG_mid m0 h0 hn hc hst (2 * n - 1) (by omega)).1.step h0 hn hc hst).2 (by omega)
  have e : 2 * n = 2 * n - 1 + 1 := by omega
  rw [e]
  exact h

theorem runG_succ (n : Nat) (g : GetS) (m : MemS) (k : Nat) : runG n g m (k + 1) = GetS.step n (runG n g m k).1 (runG n g m k).2 := rfl
theorem runG_add (n : Nat) (g : GetS) (m : MemS) (a b : Nat) : runG n g m (a + b) = runG n (runG n g m a).1 (runG n g m a).2 b := by
  induction b with
  | zero => rfl
  | succ b ih => rw [← Nat.add_assoc, runG_succ, runG_succ, ih]
theorem runG_over (n : Nat) (g : GetS) (m : MemS) (h : g.phase ≠ 0) (k : Nat) : runG n g m k = (g, m) := by
  induction k with
  | zero => rfl
  | succ k ih => rw [runG_succ, ih]; simp [GetS.step, h]

/-- The five steps of a Take that nobody spoils. -/
theorem runG_take {n : Nat} {g : GetS} {m : MemS} {z : Nat} {x : Int} (h0 : g.phase = 0) (ht : g.take = some (take0 g.cf g.who z x)) (hx : m.at z = x) (hz : z < n) (hl : 2 * n + g.who < m.cells.length) :
    (∀ k, k < 5 → (runG n g m k).1.phase = 0 ∧ (runG n g m k).1.tries = g.tries ∧ (runG n g m k).2.log.length = m.log.length + k) ∧ (runG n g m 5).1.phase = 1 ∧ (runG n g m 5).1.tries = g.tries ∧ (runG n g m 5).1.value = m.at (n + z) ∧
      (runG n g m 5).2.cells = (m.cells.set z ((unpk x).taken.pack)).set (2 * n + g.who) 0 ∧ (runG n g m 5).2.log.length = m.log.length + 5 := by
  obtain ⟨cf, who, en, start, snap, take, tries, value, phase⟩ := g
  simp only at h0 ht hl
  subst h0 ht
  obtain ⟨m1, hm1⟩ : ∃ m1, m1 = m.put who 1 (2 * n + who) ((z : Int) + 1) true := ⟨_, rfl⟩
  obtain ⟨m2, hm2⟩ : ∃ m2, m2 = m1.ld who z := ⟨_, rfl⟩
  obtain ⟨m3, hm3⟩ : ∃ m3, m3 = m2.ld who (n + z) := ⟨_, rfl⟩
  obtain ⟨m4, hm4⟩ : ∃ m4, m4 = m3.put who 2 z ((unpk x).taken.pack) true := ⟨_, rfl⟩
  obtain ⟨m5, hm5⟩ : ∃ m5, m5 = m4.put who 1 (2 * n + who) 0 true := ⟨_, rfl⟩
  have a1 : ∀ j, m1.at j = if j = 2 * n + who then (z : Int) + 1 else m.at j := fun j => by rw [hm1, put_at _ _ _ _ _ _ _ hl]
  have a1z : m1.at z = x := by rw [a1, if_neg (by omega), hx]
  have a2 : ∀ j, m2.at j = m1.at j := fun j => by rw [hm2, ld_at]
  have a3 : ∀ j, m3.at j = m2.at j := fun j => by rw [hm3, ld_at]
  have s1 : runG n ⟨cf, who, en, start, snap, some (take0 cf who z x), tries, value, 0⟩ m 1 = (⟨cf, who, en, start, snap, some ⟨cf, who, z, x, 1, false, 0, 0⟩, tries, value, 0⟩, m1) := by
    rw [runG_succ]; simp [runG, GetS.step, TakeS.step, take0, hm1]
  have s2 : runG n ⟨cf, who, en, start, snap, some (take0 cf who z x), tries, value, 0⟩ m 2 = (⟨cf, who, en, start, snap, some ⟨cf, who, z, x, 2, false, 0, 0⟩, tries, value, 0⟩, m2) := by
    rw [runG_succ, s1]; simp [GetS.step, TakeS.step, hm2, a1z]
  have s3 : runG n ⟨cf, who, en, start, snap, some (take0 cf who z x), tries, value, 0⟩ m 3 = (⟨cf, who, en, start, snap, some ⟨cf, who, z, x, 3, false, m.at (n + z), 0⟩, tries, value, 0⟩, m3) := by
    rw [runG_succ, s2]; simp only [GetS.step, TakeS.step, hm3]; simp [a2, a1]
    intro h; omega
  have s4 : runG n ⟨cf, who, en, start, snap, some (take0 cf who z x), tries, value, 0⟩ m 4 = (⟨cf, who, en, start, snap, some ⟨cf, who, z, x, 4, false, m.at (n + z), 0⟩, tries, value, 0⟩, m4) := by
    rw [runG_succ, s3]; simp [GetS.step, TakeS.step, hm4, a3, a2, a1z]
  have s5 : runG n ⟨cf, who, en, start, snap, some (take0 cf who z x), tries, value, 0⟩ m 5 = (⟨cf, who, en, start, snap, some ⟨cf, who, z, x, 5, false, m.at (n + z), 1⟩, tries, m.at (n + z), 1⟩, m5) := by
    rw [runG_succ, s4]; simp [GetS.step, TakeS.step, hm5]
  have l1 : m1.log.length = m.log.length + 1 := by rw [hm1, put_log]
  have l2 : m2.log.length = m.log.length + 2 := by rw [hm2, ld_log, l1]
  have l3 : m3.log.length = m.log.length + 3 := by rw [hm3, ld_log, l2]
  have l4 : m4.log.length = m.log.length + 4 := by rw [hm4, put_log, l3]
  have l5 : m5.log.length = m.log.length + 5 := by rw [hm5, put_log, l4]
  refine ⟨fun k hk => ?_, by rw [s5], by rw [s5], by rw [s5], ?_, by rw [s5]; exact l5⟩
  · obtain rfl | rfl | rfl | rfl | rfl : k = 0 ∨ k = 1 ∨ k = 2 ∨ k = 3 ∨ k = 4 := by omega
    · exact ⟨rfl, rfl, rfl⟩
    · rw [s1]; exact ⟨rfl, rfl, l1⟩
    · rw [s2]; exact ⟨rfl, rfl, l2⟩
    · rw [s3]; exact ⟨rfl, rfl, l3⟩
    · rw [s4]; exact ⟨rfl, rfl, l4⟩
  · rw [s5]
    simp only
    have c3 : m3.cells = m.cells.set (2 * n + who) ((z : Int) + 1) := by rw [hm3, ld_cells, hm2, ld_cells, hm1]; rfl
    rw [hm5, hm4]
    show ((m3.cells.set z _).set (2 * n + who) 0) = _
    rw [c3, List.set_comm _ _ (show 2 * n + who ≠ z by omega), List.set_set]

theorem chosen_full {g : GetS} (h : rowW g.snap.words = []) : g.chosen = { g with phase := 2 } := by
  unfold GetS.chosen; rw [h]; rfl
theorem chosen_some {g : GetS} {z : Nat} (h : atR (rowW g.snap.words) g.en = (z : Int)) : g.chosen = { g with take := some (take0 g.cf g.who z (g.snap.words.getD z 0)) } := by
  unfold GetS.chosen; rw [h, if_neg (by omega)]; simp

/-- Nobody else does anything: there is nothing. -/
theorem alone_none {n : Nat} {g0 : GetS} (m0 : MemS) (h0 : Fresh n g0) (hn : 0 < n) (hc : n ≤ m0.cells.length) (hst : g0.snap.start < n) (hr : rowW (m0.words n) = []) :
    (∀ k, k < 2 * n → (runG n g0 m0 k).1.phase = 0 ∧ (runG n g0 m0 k).1.tries = g0.tries ∧ (runG n g0 m0 k).2.log.length = m0.log.length + k) ∧
    (runG n g0 m0 (2 * n)).1.phase = 2 ∧ (runG n g0 m0 (2 * n)).1.value = g0.value ∧ (runG n g0 m0 (2 * n)).1.tries = g0.tries ∧ (runG n g0 m0 (2 * n)).2.cells = m0.cells ∧ (runG n g0 m0 (2 * n)).2.log.length = m0.log.length + 2 * n := by
  obtain ⟨s', e1, e2, e3, e4⟩ := runG_read m0 h0 hn hc hst
  rw [chosen_full (by simp only; rw [e2]; exact hr)] at e1
  refine ⟨fun k hk => ?_, by rw [e1], by rw [e1], by rw [e1], e3, e4⟩
  obtain ⟨a, b, _⟩ := runG_mid m0 h0 hn hc hst k hk
  exact ⟨b, by rw [a.gg], a.log⟩

/-- Nobody else does anything: what stands at the end is taken. -/
theorem alone_some {n : Nat} {g0 : GetS} (m0 : MemS) (h0 : Fresh n g0) (hn : 0 < n) (hc : 2 * n + g0.who < m0.cells.length) (hst : g0.snap.start < n) (z : Nat) (hr : atR (rowW (m0.words n)) g0.en = (z : Int)) (hz : z < n) :
    (∀ k, k < 2 * n + 5 → (runG n g0 m0 k).1.phase = 0 ∧ (runG n g0 m0 k).1.tries = g0.tries ∧ (runG n g0 m0 k).2.log.length = m0.log.length + k) ∧
    (runG n g0 m0 (2 * n + 5)).1.phase = 1 ∧ (runG n g0 m0 (2 * n + 5)).1.tries = g0.tries ∧ (runG n g0 m0 (2 * n + 5)).1.value = m0.at (n + z) ∧
    (runG n g0 m0 (2 * n + 5)).2.cells = (m0.cells.set z ((unpk (m0.at z)).taken.pack)).set (2 * n + g0.who) 0 ∧ (runG n g0 m0 (2 * n + 5)).2.log.length = m0.log.length + (2 * n + 5) := by
  obtain ⟨s', e1, e2, e3, e4⟩ := runG_read m0 h0 hn (by omega) hst
  rw [chosen_some (z := z) (by simp only; rw [e2]; exact hr)] at e1
  simp only at e1
  rw [e2, words_at _ _ _ hz] at e1
  have hat : ∀ j, (runG n g0 m0 (2 * n)).2.at j = m0.at j := fun j => by unfold MemS.at; rw [e3]
  obtain ⟨t1, t2, t3, t4, t5, t6⟩ := runG_take (n := n) (g := (runG n g0 m0 (2 * n)).1) (m := (runG n g0 m0 (2 * n)).2) (z := z) (x := m0.at z) (by rw [e1]; exact h0.ph) (by rw [e1]) (hat z) hz (by rw [e1, e3]; exact hc)
  have hw : (runG n g0 m0 (2 * n)).1.who = g0.who := by rw [e1]
  have htr : (runG n g0 m0 (2 * n)).1.tries = g0.tries := by rw [e1]
  rw [htr] at t1 t3
  rw [hat] at t4
  rw [e3, hw] at t5
  rw [runG_add]
  refine ⟨fun k hk => ?_, t2, t3, t4, t5, by rw [t6, e4]; omega⟩
  by_cases hk2 : k < 2 * n
  · obtain ⟨a, b, _⟩ := runG_mid m0 h0 hn (by omega) hst k hk2
    exact ⟨b, by rw [a.gg], a.log⟩
  · obtain ⟨j, rfl⟩ : ∃ j, k = 2 * n + j := ⟨k - 2 * n, by omega⟩
    rw [runG_add]
    obtain ⟨q1, q2, q3⟩ := t1 j (by omega)
    exact ⟨q1, q2, by rw [q3, e4]; omega⟩

end Go.Proofs.Ytkcimjcmlibgpaa
