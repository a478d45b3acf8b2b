/-
  A Get whose chosen places are taken by another one, so many times, in plain numbers. Conditions: the cells fit; there are so many in the row.
-/
import Derived.Test.YtkcimjcmlibgpaaRunD
namespace Go.Proofs.Ytkcimjcmlibgpaa

structure TrS where
  g : GetS
  m : MemS
  c : Nat

/-- The place that is looked at is there, and something is in it. -/
def Looked (n : Nat) (m : MemS) : Prop := 1 ≤ m.at (2 * n) ∧ m.at (2 * n) ≤ (n : Int) ∧ (unpk (m.at (m.at (2 * n) - 1).toNat)).st = 1
instance (n : Nat) (m : MemS) : Decidable (Looked n m) := by unfold Looked; infer_instance
def MemS.turn (m : MemS) (z : Nat) : MemS := m.put (-1) 1 z ((unpk (m.at z)).taken.pack) true

/-- A step, and what it looks at is taken by another one, if that has still to be done. -/
def TrS.step (n : Nat) (s : TrS) : TrS :=
  if 0 < s.c ∧ Looked n (s.g.step n s.m).2 then ⟨(s.g.step n s.m).1, (s.g.step n s.m).2.turn ((s.g.step n s.m).2.at (2 * n) - 1).toNat, s.c - 1⟩
  else ⟨(s.g.step n s.m).1, (s.g.step n s.m).2, s.c⟩
def runT (n : Nat) (s : TrS) : Nat → TrS
  | 0 => s
  | k + 1 => (runT n s k).step n
theorem runT_succ (n : Nat) (s : TrS) (k : Nat) : runT n s (k + 1) = (runT n s k).step n := rfl
theorem runT_add (n : Nat) (s : TrS) (a b : Nat) : runT n s (a + b) = runT n (runT n s a) b := by
  induction b with
  | zero => rfl
  | succ b ih => rw [← Nat.add_assoc, runT_succ, runT_succ, ih]

theorem turn_len (m : MemS) (z : Nat) : (m.turn z).cells.length = m.cells.length := put_cells_len _ _ _ _ _ _
theorem turn_log (m : MemS) (z : Nat) : (m.turn z).log.length = m.log.length + 1 := put_log _ _ _ _ _ _

theorem step_len (n : Nat) (g : GetS) (m : MemS) : (g.step n m).2.cells.length = m.cells.length := by
  unfold GetS.step
  split
  · rfl
  · cases g.take with
    | none =>
      simp only
      unfold SnapS.step
      split
      · rfl
      · rw [ld_cells]
    | some t =>
      simp only
      unfold TakeS.step
      repeat' split
      all_goals simp [MemS.put, MemS.ld]

structure TrS.Ok (n : Nat) (s : TrS) : Prop where
  ok : s.g.Ok n s.m
  u : ∀ k, U64 (s.m.at k)

theorem TrS.Ok.step {n : Nat} {s : TrS} (h : s.Ok n) : (s.step n).Ok n := by
  have h1 := get_step_ok n s.g s.m h.ok h.u
  have h2 := step_u64 n s.g s.m h.ok h.u
  unfold TrS.step
  split
  · exact ⟨h1.later (turn_len _ _) (by rw [turn_log]; omega), put_u64 h2 _ _ _ _ _ (pack_u64 _ (unpk_taken_ok _))⟩
  · exact ⟨h1, h2⟩
theorem runT_ok {n : Nat} {s : TrS} (h : s.Ok n) (k : Nat) : (runT n s k).Ok n := by
  induction k with
  | zero => exact h
  | succ k ih => exact ih.step
theorem runT_log {n : Nat} {s : TrS} (k : Nat) : (runT n s k).m.log.length ≤ s.m.log.length + 2 * k := by
  induction k with
  | zero => simp [runT]
  | succ k ih =>
    rw [runT_succ]
    have h1 := step_log_le n (runT n s k).g (runT n s k).m
    unfold TrS.step
    split
    · simp only [turn_log]; omega
    · simp only; omega
theorem runT_c {n : Nat} {s : TrS} (k : Nat) : (runT n s k).c ≤ s.c := by
  induction k with
  | zero => exact Nat.le_refl _
  | succ k ih =>
    rw [runT_succ]
    unfold TrS.step
    split
    · simp only; omega
    · simp only; omega
theorem runT_cf {n : Nat} {s : TrS} (k : Nat) : (runT n s k).g.cf = s.g.cf := by
  induction k with
  | zero => rfl
  | succ k ih =>
    rw [runT_succ]
    unfold TrS.step
    split
    · simp only [step_cf, ih]
    · simp only [step_cf, ih]

/-- Where nothing is looked at, a step is just a step. -/
theorem runT_quiet {n : Nat} {g : GetS} {m : MemS} {c : Nat} (K : Nat) (h : ∀ k, 0 < k → k ≤ K → c = 0 ∨ ¬ Looked n (runG n g m k).2) :
    ∀ k, k ≤ K → runT n ⟨g, m, c⟩ k = ⟨(runG n g m k).1, (runG n g m k).2, c⟩ := by
  intro k
  induction k with
  | zero => intro _; rfl
  | succ k ih =>
    intro hk
    rw [runT_succ, ih (by omega)]
    unfold TrS.step
    simp only
    rw [← runG_succ]
    have := h (k + 1) (by omega) hk
    rw [if_neg (by
      rintro ⟨h1, h2⟩
      rcases this with h | h
      · omega
      · exact h h2)]

theorem not_looked {n : Nat} {m : MemS} (h : m.at (2 * n) = 0) : ¬ Looked n m := fun hl => by have := hl.1; omega

/-- One round that is spoilt. -/
theorem round_spoilt {n : Nat} {g0 : GetS} {m : MemS} {c z : Nat} (h0 : Fresh n g0) (hw : g0.who = 0) (hf : Fits g0.cf n m) (hh : m.at (2 * n) = 0) (hz : atR (rowW (m.words n)) g0.en = (z : Int)) (hzn : z < n) (hlive : (unpk (m.at z)).st = 1) :
    (∀ k, k ≤ 2 * n + 3 → (runT n ⟨g0, m, c + 1⟩ k).g.phase = 0) ∧
    ∃ m1 g1, runT n ⟨g0, m, c + 1⟩ (2 * n + 3) = ⟨g1, m1, c⟩ ∧ Fresh n g1 ∧ g1.cf = g0.cf ∧ g1.who = 0 ∧ g1.en = g0.en ∧ g1.tries = g0.tries + 1 ∧ g1.value = g0.value ∧ m1.at (2 * n) = 0 ∧ m1.cells.length = m.cells.length ∧
      m1.words n = (m.words n).set z ((unpk (m.at z)).taken.pack) := by
  have hn := hf.pos
  have hl := hf.len
  have ht := hf.t0
  have hst : g0.snap.start < n := by rw [h0.sn]; exact startOf_lt _ hn
  have hmid := runG_mid m h0 hn (by omega) hst
  obtain ⟨s', r1, r2, r3, r4⟩ := runG_read m h0 hn (by omega) hst
  rw [chosen_some (z := z) (by simp only; rw [r2]; exact hz)] at r1
  simp only at r1
  rw [r2, words_at _ _ _ hzn, hw] at r1
  have hat : ∀ j, (runG n g0 m (2 * n)).2.at j = m.at j := fun j => by unfold MemS.at; rw [r3]
  have hq : ∀ k, 0 < k → k ≤ 2 * n → c + 1 = 0 ∨ ¬ Looked n (runG n g0 m k).2 := fun k _ hk => by
    right
    apply not_looked
    rcases Nat.lt_or_ge k (2 * n) with h | h
    · have := (hmid k h).1.cells
      unfold MemS.at; rw [this]; exact hh
    · obtain rfl : k = 2 * n := by omega
      rw [hat, hh]
  have hrun := runT_quiet (2 * n) hq
  obtain ⟨g2, hg2⟩ : ∃ g2, g2 = (runG n g0 m (2 * n)).1 := ⟨_, rfl⟩
  obtain ⟨m2, hm2⟩ : ∃ m2, m2 = (runG n g0 m (2 * n)).2 := ⟨_, rfl⟩
  have hat2 : ∀ j, m2.at j = m.at j := by rw [hm2]; exact hat
  have hl2 : m2.cells.length = m.cells.length := by rw [hm2, r3]
  rw [← hg2] at r1
  obtain ⟨cf, who, en, start, snap, take, tries, value, phase⟩ := g0
  obtain ⟨f1, f2, f3⟩ := h0
  simp only at f1 f2 hw hf hz r1
  subst f1 f2 hw
  have e2 : runT n ⟨⟨cf, 0, en, start, snap, none, tries, value, 0⟩, m, c + 1⟩ (2 * n) = ⟨g2, m2, c + 1⟩ := by rw [hrun _ (Nat.le_refl _), ← hg2, ← hm2]
  -- it says at which place it looks: that is taken
  obtain ⟨m3, hm3⟩ : ∃ m3, m3 = m2.put (0 : Nat) 1 (2 * n + 0) ((z : Int) + 1) true := ⟨_, rfl⟩
  have hl3 : m3.cells.length = m.cells.length := by rw [hm3, put_cells_len, hl2]
  have a3 : ∀ j, m3.at j = if j = 2 * n then (z : Int) + 1 else m.at j := fun j => by
    rw [hm3, put_at _ _ _ _ _ _ _ (by omega), Nat.add_zero, hat2]
  have s3 : GetS.step n g2 m2 = (⟨cf, 0, en, start, s', some ⟨cf, 0, z, m.at z, 1, false, 0, 0⟩, tries, value, 0⟩, m3) := by
    rw [r1]; simp [GetS.step, TakeS.step, take0, hm3]
  have look3 : Looked n m3 := by
    refine ⟨?_, ?_, ?_⟩
    · rw [a3, if_pos rfl]; omega
    · rw [a3, if_pos rfl]; omega
    · rw [a3 (2 * n), if_pos rfl, show ((z : Int) + 1 - 1).toNat = z by omega, a3, if_neg (by omega)]; exact hlive
  have hz3 : (m3.at (2 * n) - 1).toNat = z := by rw [a3, if_pos rfl]; omega
  have e3 : runT n ⟨⟨cf, 0, en, start, snap, none, tries, value, 0⟩, m, c + 1⟩ (2 * n + 1) = ⟨⟨cf, 0, en, start, s', some ⟨cf, 0, z, m.at z, 1, false, 0, 0⟩, tries, value, 0⟩, m3.turn z, c⟩ := by
    rw [runT_succ, e2]
    unfold TrS.step
    simp only [s3]
    rw [if_pos ⟨by omega, look3⟩, hz3]
    rfl
  have a4 : ∀ j, (m3.turn z).at j = if j = z then (unpk (m.at z)).taken.pack else if j = 2 * n then (z : Int) + 1 else m.at j := fun j => by
    unfold MemS.turn
    rw [put_at _ _ _ _ _ _ _ (by omega), a3, if_neg (show ¬ z = 2 * n by omega), a3]
  have hne : (m3.turn z).at z ≠ m.at z := fun h => by
    rw [a4, if_pos rfl] at h
    have := taken_st (m.at z)
    rw [h, hlive] at this
    omega
  -- it sees that
  obtain ⟨m5, hm5⟩ : ∃ m5, m5 = (m3.turn z).ld (0 : Nat) z := ⟨_, rfl⟩
  have a5 : ∀ j, m5.at j = (m3.turn z).at j := fun j => by rw [hm5, ld_at]
  have s5 : GetS.step n ⟨cf, 0, en, start, s', some ⟨cf, 0, z, m.at z, 1, false, 0, 0⟩, tries, value, 0⟩ (m3.turn z) = (⟨cf, 0, en, start, s', some ⟨cf, 0, z, m.at z, 2, true, 0, 0⟩, tries, value, 0⟩, m5) := by
    simp [GetS.step, TakeS.step, hm5, hne]
  have look5 : ¬ Looked n m5 := fun h => by
    have h3 := h.2.2
    have b5 : m5.at (2 * n) = (z : Int) + 1 := by rw [a5, a4, if_neg (show ¬ 2 * n = z by omega), if_pos rfl]
    rw [b5, show ((z : Int) + 1 - 1).toNat = z by omega, a5, a4, if_pos rfl, taken_st] at h3
    omega
  have e5 : runT n ⟨⟨cf, 0, en, start, snap, none, tries, value, 0⟩, m, c + 1⟩ (2 * n + 2) = ⟨⟨cf, 0, en, start, s', some ⟨cf, 0, z, m.at z, 2, true, 0, 0⟩, tries, value, 0⟩, m5, c⟩ := by
    rw [runT_succ, e3]
    unfold TrS.step
    simp only [s5]
    rw [if_neg (fun h => look5 h.2)]
  -- and begins anew
  obtain ⟨m6, hm6⟩ : ∃ m6, m6 = m5.put (0 : Nat) 1 (2 * n + 0) 0 true := ⟨_, rfl⟩
  have hl5 : m5.cells.length = m.cells.length := by rw [hm5, ld_cells, turn_len, hl3]
  have a6 : ∀ j, m6.at j = if j = 2 * n then 0 else m5.at j := fun j => by
    rw [hm6, put_at _ _ _ _ _ _ _ (by omega), Nat.add_zero]
  have s6 : GetS.step n ⟨cf, 0, en, start, s', some ⟨cf, 0, z, m.at z, 2, true, 0, 0⟩, tries, value, 0⟩ m5 = (⟨cf, 0, en, start, snap0 cf 0 n start, none, tries + 1, value, 0⟩, m6) := by
    simp [GetS.step, TakeS.step, hm6]
  have look6 : ¬ Looked n m6 := not_looked (by rw [a6, if_pos rfl])
  have e6 : runT n ⟨⟨cf, 0, en, start, snap, none, tries, value, 0⟩, m, c + 1⟩ (2 * n + 3) = ⟨⟨cf, 0, en, start, snap0 cf 0 n start, none, tries + 1, value, 0⟩, m6, c⟩ := by
    rw [runT_succ, e5]
    unfold TrS.step
    simp only [s6]
    rw [if_neg (fun h => look6 h.2)]
  refine ⟨fun k hk => ?_, m6, _, e6, ⟨rfl, rfl, rfl⟩, rfl, rfl, rfl, rfl, rfl, by rw [a6, if_pos rfl], by rw [hm6, put_cells_len, hl5], ?_⟩
  · rcases Nat.lt_or_ge k (2 * n) with h | h
    · rw [hrun k (by omega)]; exact (hmid k h).2.1
    · obtain rfl | rfl | rfl | rfl : k = 2 * n ∨ k = 2 * n + 1 ∨ k = 2 * n + 2 ∨ k = 2 * n + 3 := by omega
      · rw [e2, r1]
      · rw [e3]
      · rw [e5]
      · rw [e6]
  · have hn6 : n ≤ m6.cells.length := by rw [hm6, put_cells_len, hl5]; omega
    apply List.ext_getElem
    · rw [words_len _ _ hn6, List.length_set, words_len _ _ (by omega)]
    · intro j h1 h2
      rw [words_len _ _ hn6] at h1
      have x1 := words_at m6 n j h1
      rw [List.getD_eq_getElem?_getD, List.getElem?_eq_getElem (by rw [words_len _ _ hn6]; exact h1)] at x1
      simp only [Option.getD_some] at x1
      have x2 : ((m.words n).set z ((unpk (m.at z)).taken.pack)).getD j 0 = if j = z then (unpk (m.at z)).taken.pack else m.at j := by
        rw [getD_set, words_at m n j h1]
        by_cases hjz : j = z
        · rw [if_pos hjz, if_pos ⟨hjz, by rw [words_len _ _ (by omega)]; omega⟩]
        · rw [if_neg hjz, if_neg (fun h => hjz h.1)]
      rw [List.getD_eq_getElem?_getD, List.getElem?_eq_getElem h2] at x2
      simp only [Option.getD_some] at x2
      rw [x1, x2, a6, if_neg (by omega), a5, a4]
      by_cases hjz : j = z
      · rw [if_pos hjz, if_pos hjz]
      · rw [if_neg hjz, if_neg hjz, if_neg (by omega)]

/-- All of it. -/
theorem tries_run {n : Nat} {R0 : List Nat} : ∀ (c : Nat) (g0 : GetS) (m : MemS) (off ln : Nat), Fresh n g0 → g0.who = 0 → Fits g0.cf n m → m.at (2 * n) = 0 → Win R0 off ln (rowW (m.words n)) → c ≤ ln → (g0.en = 0 ∨ g0.en = 1) →
    ∃ T, T ≤ c * (2 * n + 3) + (2 * n + 5) ∧ (∀ k, k < T → (runT n ⟨g0, m, c⟩ k).g.phase = 0) ∧ (runT n ⟨g0, m, c⟩ T).c = 0 ∧ (runT n ⟨g0, m, c⟩ T).g.tries = g0.tries + c ∧
      ((ln - c = 0 ∧ (runT n ⟨g0, m, c⟩ T).g.phase = 2 ∧ (runT n ⟨g0, m, c⟩ T).g.value = g0.value) ∨
       ∃ z : Nat, 0 < ln - c ∧ z < n ∧ R0.getD (if g0.en = 0 then off + c else off + (ln - c - 1)) 0 = z ∧ (runT n ⟨g0, m, c⟩ T).g.phase = 1 ∧ (runT n ⟨g0, m, c⟩ T).g.value = (runT n ⟨g0, m, c⟩ T).m.at (n + z)) := by
  intro c
  induction c with
  | zero =>
    intro g0 m off ln h0 hw hf hh hwin _ hen
    obtain ⟨K, hK⟩ := alone_K m h0 hf (by rw [hw]; have := hf.t0; omega)
    have hq := runT_quiet (n := n) (g := g0) (m := m) (c := 0) K (fun _ _ _ => .inl rfl)
    refine ⟨K, by have := hK.le; omega, fun k hk => by rw [hq k (by omega)]; exact hK.before k hk, by rw [hq K (Nat.le_refl _)], by rw [hq K (Nat.le_refl _)]; exact hK.tries, ?_⟩
    rw [hq K (Nat.le_refl _)]
    have hx := hK.win hwin hen
    rw [hK.stay _ hK.le] at hx
    rcases hx with ⟨a, b, d, _⟩ | ⟨z, a1, a2, a3, a4, a5, _⟩
    · exact .inl ⟨by omega, b, d⟩
    · exact .inr ⟨z, by omega, a2, a3, a4, a5⟩
  | succ c ih =>
    intro g0 m off ln h0 hw hf hh hwin hc hen
    have hpos : 0 < ln := by omega
    obtain ⟨z, hz, hzn, hlive, hwin'⟩ : ∃ z : Nat, atR (rowW (m.words n)) g0.en = (z : Int) ∧ z < n ∧ (unpk (m.at z)).st = 1 ∧
        Win R0 (if g0.en = 0 then off + 1 else off) (ln - 1) (rowW ((m.words n).set z ((unpk (m.at z)).taken.pack))) := by
      rcases atR_mem (rowW (m.words n)) g0.en with ⟨_, hr⟩ | ⟨z, hz, hm⟩
      · have := hwin.nil.1 hr; omega
      · have hm2 := (rowW_mem (m.words n) z).1 hm
        have hl := hf.len
        rw [words_len m n (by omega)] at hm2
        have hlv := hm2.2
        rw [words_at m n z hm2.1] at hlv
        refine ⟨z, hz, hm2.1, hlv, ?_⟩
        rw [rowW_taken _ _ _ _ hz]
        rcases hen with he | he
        · rw [if_pos he, he]; exact hwin.tail hpos
        · rw [if_neg (by omega), he]; exact hwin.init hpos
    obtain ⟨p0, m1, g1, e1, f0, f1, f2, f3, f4, f5, f6, f7, f8⟩ := round_spoilt (c := c) h0 hw hf hh hz hzn hlive
    obtain ⟨T, t1, t2, t3, t4, t5⟩ := ih g1 m1 (if g0.en = 0 then off + 1 else off) (ln - 1) f0 f2 (by rw [f1]; exact fits_of hf f7) f6 (by rw [f8]; exact hwin') (by omega) (by rw [f3]; exact hen)
    refine ⟨2 * n + 3 + T, ?_, fun k hk => ?_, ?_, ?_, ?_⟩
    · have hm : (c + 1) * (2 * n + 3) = c * (2 * n + 3) + (2 * n + 3) := Nat.succ_mul _ _
      omega
    · rcases Nat.lt_or_ge k (2 * n + 3) with h | h
      · exact p0 k (by omega)
      · obtain ⟨j, rfl⟩ : ∃ j, k = 2 * n + 3 + j := ⟨k - (2 * n + 3), by omega⟩
        rw [runT_add, e1]
        exact t2 j (by omega)
    · rw [runT_add, e1]; exact t3
    · rw [runT_add, e1, t4, f4]; omega
    · rw [runT_add, e1]
      rcases t5 with ⟨a, b, d⟩ | ⟨z', a1, a2, a3, a4, a5⟩
      · exact .inl ⟨by omega, b, by rw [d, f5]⟩
      · refine .inr ⟨z', by omega, a2, ?_, a4, a5⟩
        rw [← a3, f3]
        by_cases he : g0.en = 0
        · rw [if_pos he, if_pos he, if_pos he]; congr 1; omega
        · rw [if_neg he, if_neg he, if_neg he]; congr 1; omega

theorem looked_iff {v a : Int} {n : Nat} (hn : n ≤ 16) (hv : U64 v) (ha : IntKind.i64.wrap (IntKind.i64.wrap v - 1) = a) : ((0 ≤ a ∧ a < (n : Int)) ↔ (1 ≤ v ∧ v ≤ (n : Int))) ∧ (1 ≤ v ∧ v ≤ (n : Int) → a = v - 1) := by
  obtain ⟨h0, h1⟩ := hv
  rw [IntKind.wrap_i64, IntKind.wrap_i64] at ha
  constructor
  · constructor
    · rintro ⟨h2, h3⟩; omega
    · rintro ⟨h2, h3⟩; omega
  · rintro ⟨h2, h3⟩; omega

theorem tries_step_no {n : Nat} {g : GetS} {m : MemS} {c : Nat} (h : ¬ (0 < c ∧ Looked n (g.step n m).2)) : TrS.step n ⟨g, m, c⟩ = ⟨(g.step n m).1, (g.step n m).2, c⟩ := by
  unfold TrS.step; rw [if_neg h]
theorem tries_step_yes {n : Nat} {g : GetS} {m : MemS} {c z : Nat} (h : 0 < c ∧ Looked n (g.step n m).2) (hz : (g.step n m).2.at (2 * n) - 1 = (z : Int)) : TrS.step n ⟨g, m, c⟩ = ⟨(g.step n m).1, (g.step n m).2.turn z, c - 1⟩ := by
  unfold TrS.step; rw [if_pos h]; simp only [hz, Int.toNat_natCast]

end Go.Proofs.Ytkcimjcmlibgpaa
