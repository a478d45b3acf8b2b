/-
  A call comes to its end, and rests there, in plain numbers. Conditions: the cells fit; nobody else does anything (for a Get).
-/
import Derived.Test.YtkcimjcmlibgpaaTaskC
import Derived.Test.YtkcimjcmlibgpaaPutD
namespace Go.Proofs.Ytkcimjcmlibgpaa

theorem work_over {n : Nat} {now : Int} {m : MemS} {W : WorkS} (h : W.phase ≠ 0) : W.step n now m = (W, m) := by
  cases W with
  | put P =>
    have hp : P.phase ≠ 0 := h
    have e : P.step n now m = (P, m) := by unfold PutS.step; rw [if_pos hp]
    show (WorkS.put (P.step n now m).1, (P.step n now m).2) = _
    rw [e]
  | get g =>
    have hp : g.phase ≠ 0 := h
    have e : g.step n m = (g, m) := by unfold GetS.step; rw [if_pos hp]
    show (WorkS.get (g.step n m).1, (g.step n m).2) = _
    rw [e]
theorem over_iff (T : TaskS) : T.over = true ↔ T.work.phase ≠ 0 := by unfold TaskS.over; simp
theorem task_rests {n : Nat} {now : Int} {m : MemS} {T : TaskS} (h : T.over = true) : T.step n now m = (T, m) := by
  unfold TaskS.step
  rw [work_over ((over_iff T).1 h)]

theorem runK_add (n : Nat) (t0 : Int) (T : TaskS) (m : MemS) (a b : Nat) : runK n t0 T m (a + b) = runK n (t0 + a) (runK n t0 T m a).1 (runK n t0 T m a).2 b := by
  induction b with
  | zero => rfl
  | succ b ih =>
    rw [← Nat.add_assoc, runK_succ, runK_succ, ih]
    congr 1
    omega
theorem runK_over {n : Nat} {t0 : Int} {T : TaskS} {m : MemS} (h : T.over = true) (k : Nat) : runK n t0 T m k = (T, m) := by
  induction k with
  | zero => rfl
  | succ k ih => rw [runK_succ, ih]; exact task_rests h

/-- A call that gets, as a task: its steps are the Get's. -/
theorem runK_get (n : Nat) (t0 : Int) (T : TaskS) (g : GetS) (m : MemS) (h : T.work = .get g) (k : Nat) : runK n t0 T m k = ({ T with work := .get (runG n g m k).1 }, (runG n g m k).2) := by
  induction k with
  | zero =>
    obtain ⟨kind, en, value, start, work⟩ := T
    simp only at h
    subst h
    rfl
  | succ k ih =>
    rw [runK_succ, ih, runG_succ]
    rfl

theorem get_ends {n : Nat} {t0 : Int} {T : TaskS} {g : GetS} {m : MemS} (h : T.work = .get g) (h0 : Fresh n g) (hf : Fits g.cf n m) (hw : g.who < g.cf.t) : ∃ K, K ≤ 2 * n + 5 ∧ (∀ k, k < K → (runK n t0 T m k).1.over = false) ∧ (runK n t0 T m K).1.over = true := by
  obtain ⟨K, hK⟩ := alone_K m h0 hf hw
  refine ⟨K, hK.le, fun k hk => ?_, ?_⟩
  · rw [runK_get n t0 T g m h]
    have := hK.before k hk
    unfold TaskS.over WorkS.phase
    simp only [this]
    rfl
  · rw [runK_get n t0 T g m h]
    have := hK.over
    unfold TaskS.over WorkS.phase
    simpa using this

theorem put_ends_in {n : Nat} : ∀ (d : Nat) (t0 : Int) (T : TaskS) (P : PutS) (m : MemS), T.work = .put P → P.Ok n → (∀ k, U64 (m.at k)) → 0 ≤ t0 → P.left ≤ (d : Int) → ∃ K, K ≤ d ∧ (∀ k, k < K → (runK n t0 T m k).1.over = false) ∧ (runK n t0 T m K).1.over = true := by
  intro d
  induction d with
  | zero =>
    intro t0 T P m h ho hu ht hl
    have hp : P.phase ≠ 0 := fun hp => by
      have := (put_left0 ho).2 hp
      omega
    exact ⟨0, Nat.le_refl _, fun k hk => by omega, (over_iff _).2 (by show T.work.phase ≠ 0; rw [h]; exact hp)⟩
  | succ d ih =>
    intro t0 T P m h ho hu ht hl
    by_cases hp : P.phase = 0
    · have h1 := put_left (now := t0) ho hp hu ht
      have h2 := (put_ok (n := n) (m := m) ho hu ht).1
      have h3 := (put_mem (n := n) (m := m) (now := t0) ho hu).2.2
      have hs : T.step n t0 m = ({ T with work := .put (P.step n t0 m).1 }, (P.step n t0 m).2) := by
        unfold TaskS.step; rw [h]; rfl
      obtain ⟨K, k1, k2, k3⟩ := ih (t0 + 1) { T with work := .put (P.step n t0 m).1 } (P.step n t0 m).1 (P.step n t0 m).2 rfl h2 h3 (by omega) (by omega)
      have hr : ∀ k, runK n t0 T m (k + 1) = runK n (t0 + 1) { T with work := .put (P.step n t0 m).1 } (P.step n t0 m).2 k := fun k => by
        rw [Nat.add_comm, runK_add]
        have e : runK n t0 T m 1 = ({ T with work := .put (P.step n t0 m).1 }, (P.step n t0 m).2) := by
          rw [runK_succ]
          show T.step n (t0 + ((0 : Nat) : Int)) m = _
          rw [show t0 + ((0 : Nat) : Int) = t0 by omega, hs]
        rw [e]
        rfl
      refine ⟨K + 1, by omega, fun k hk => ?_, by rw [hr]; exact k3⟩
      cases k with
      | zero =>
        show T.over = false
        unfold TaskS.over WorkS.phase
        rw [h]
        simp [hp]
      | succ k => rw [hr]; exact k2 k (by omega)
    · exact ⟨0, Nat.zero_le _, fun k hk => by omega, (over_iff _).2 (by show T.work.phase ≠ 0; rw [h]; exact hp)⟩

theorem reply_put {T : TaskS} {P : PutS} (h : T.work = .put P) : T.reply.value = 0 := by
  unfold TaskS.reply WorkS.reply
  rw [h]
  simp only
  split <;> rfl
theorem reply_get {T : TaskS} {g : GetS} (h : T.work = .get g) : T.reply.lo = 0 ∧ T.reply.hi = 0 := by
  unfold TaskS.reply WorkS.reply
  rw [h]
  simp only
  split <;> exact ⟨rfl, rfl⟩

theorem conf_src (a b c d : Int) : 0 ≤ (confC a b c d).src ∧ (confC a b c d).src ≤ 4 := by unfold confC srcOf; simp only; omega
theorem conf_del (a b c d : Int) : 0 ≤ (confC a b c d).del ∧ (confC a b c d).del ≤ 3 := by unfold confC; simp only; omega

theorem task0_ok {cf : Cf} {who n : Nat} {kind en value start : Int} {m : MemS} (hf : Fits cf n m) (hs0 : 0 ≤ cf.src) (hs1 : cf.src ≤ 4) (hd0 : 0 ≤ cf.del) (hd1 : cf.del ≤ 100) (hw : who < cf.t) (he : en = 0 ∨ en = 1) (hv : U64 value) : (task0 cf who n kind en value start).work.Ok cf n m := by
  unfold task0
  simp only
  split
  · exact ⟨put0_ok hf.t0 hf.t1 hf.s0 hs0 hs1 hd0 hd1 hw he hv, rfl⟩
  · exact ⟨get0_ok cf who n en start m hf hw he, rfl⟩

/-- A call in a small layout, alone, comes to its end. -/
theorem task0_ends {cf : Cf} {who n : Nat} {kind en value start t0 : Int} {m : MemS} (hf : Fits cf n m) (ht : cf.t ≤ 4) (hs : cf.s ≤ 4) (hs0 : 0 ≤ cf.src) (hs1 : cf.src ≤ 4) (hd0 : 0 ≤ cf.del) (hd1 : cf.del ≤ 3) (hw : who < cf.t) (he : en = 0 ∨ en = 1) (hv : U64 value) (hu : ∀ k, U64 (m.at k)) (h0 : 0 ≤ t0) :
    ∃ K, K ≤ 40 ∧ (∀ k, k < K → (runK n t0 (task0 cf who n kind en value start) m k).1.over = false) ∧ (runK n t0 (task0 cf who n kind en value start) m K).1.over = true := by
  have hn : n = cf.t * cf.s := hf.hn
  have hn16 : n ≤ 16 := by rw [hn]; exact Nat.mul_le_mul ht hs
  by_cases hk : kind = 0
  · have hT : (task0 cf who n kind en value start).work = .put (put0 cf who en value) := by unfold task0; simp only; rw [if_pos hk]
    have hl := put0_left cf who en value
    have hm : putMost cf ≤ 40 := by
      unfold putMost
      have : (cf.s : Int) * ((cf.t : Int) + 1) ≤ 20 := by
        have h := Nat.mul_le_mul hs (Nat.add_le_add_right ht 1)
        have e : ((cf.s * (cf.t + 1) : Nat) : Int) = (cf.s : Int) * ((cf.t : Int) + 1) := by simp
        omega
      split
      · omega
      · split
        · omega
        · split <;> omega
    exact put_ends_in 40 t0 _ _ m hT (put0_ok hf.t0 hf.t1 hf.s0 hs0 hs1 hd0 (by omega) hw he hv) hu h0 (by rw [hl]; exact hm)
  · have hT : (task0 cf who n kind en value start).work = .get (get0 cf who n en start) := by unfold task0; simp only; rw [if_neg hk]
    obtain ⟨K, k1, k2⟩ := get_ends (t0 := t0) hT ⟨rfl, rfl, rfl⟩ hf hw
    exact ⟨K, by omega, k2⟩

theorem task_new_st {W0 w : World} {R : HP} (h : St W0 w R) (ct cs who n : Nat) (src del kind en value start : Int) (ht : ct ≤ 64) (hs : cs ≤ 64) (hn : n = ct * cs) (hn0 : 1 ≤ n) (hk : kind = 0 ∨ kind = 1) :
    Calls Try.prog 47 #[.agg #[.int .i64 ct, .int .i64 cs, .int .i64 src, .int .i64 del], .int .i64 who, .agg #[.int .i64 kind, .int .i64 en, .int .u64 value, .int .i64 start]] w fun e w' =>
      ∃ kb, e = .returned (.pointer (some ⟨kb, 0, none⟩)) ∧ St W0 w' (taskP kb (task0 ⟨ct, cs, src, del⟩ who n kind en value start) * R) := by
  rcases hk with rfl | rfl
  · exact taskPut_st h ct cs who n src del en value start
  · exact taskGet_st h ct cs who n src del en value start ht hs hn hn0

end Go.Proofs.Ytkcimjcmlibgpaa
