/-
  How many steps a Put may still take, at most: each step of its own makes it less. Conditions: the cells are words of 64 bits; the time isn't below 0.
-/
import Derived.Test.YtkcimjcmlibgpaaPutC
namespace Go.Proofs.Ytkcimjcmlibgpaa

def TickS.left (t : TickS) : Int :=
  if t.phase ≠ 0 then 0 else if t.cf.src = 1 then (t.cf.t : Int) + 1 - t.steps else if t.cf.src = 2 then 4 - (t.steps : Int) else if t.cf.src = 4 then t.cf.del + 2 - t.steps else 1
def ClaimS.left (c : ClaimS) : Int :=
  if c.phase ≠ 0 then 0 else ((c.cf.s : Int) - c.k - 1) * ((c.cf.t : Int) + 1) + (if c.guard < 0 then (c.cf.t : Int) + 1 else (c.cf.t : Int) - c.guard)
def PutS.left (P : PutS) : Int := if P.phase ≠ 0 then 0 else P.claim.left + P.tick.left + (if P.stored = true then 1 else 2)

theorem tick_left0 {t : TickS} (ho : t.Ok) : 0 ≤ t.left ∧ (t.phase = 0 → 1 ≤ t.left) := by
  obtain ⟨a0, a1, a2, a3, a4, a5, a6, a7, a8, b0, b1, b2, b3, b4⟩ := ho
  unfold TickS.left
  by_cases hp : t.phase = 0
  · rw [if_neg (by omega)]
    have c1 := b1 hp
    have c2 := b2 hp
    have c4 := b4 hp
    refine ⟨?_, fun _ => ?_⟩
    all_goals
      split
      · rename_i h; have := c1 h; omega
      · split
        · rename_i h; have := c2 h; omega
        · split
          · rename_i h; have := c4 h; omega
          · omega
  · rw [if_pos hp]
    exact ⟨by omega, fun h => absurd h hp⟩

theorem tick_left {n : Nat} {t : TickS} {m : MemS} {now : Int} (ho : t.Ok) (hp : t.phase = 0) (hu : ∀ k, U64 (m.at k)) (h0 : 0 ≤ now) : (t.step n now m).1.left + 1 ≤ t.left := by
  have hc := core_ok (n := n) (now := min now 16777215) ho hp hu (by omega) (by omega)
  have h1 := (tick_left0 ho).2 hp
  have hs0 := ho.src0
  have hs1 := ho.src1
  have e : (t.step n now m).1 = { (t.core n (min now 16777215) m).1 with steps := t.steps + 1 } := by unfold TickS.step; rw [if_neg (by omega)]
  rw [e]
  obtain ⟨c1, c2, c3, c4, c5, d0, d1, d2, d3, d4⟩ := hc
  by_cases hT : (t.core n (min now 16777215) m).1.phase = 0
  · have g0 := d0 hT
    have g1 := d1 hT
    have g2 := d2 hT
    have g3 := d3 hT
    have g4 := d4 hT
    rw [c1] at g0 g1 g2 g3 g4
    have e1 : TickS.left { (t.core n (min now 16777215) m).1 with steps := t.steps + 1 } = if t.cf.src = 1 then (t.cf.t : Int) + 1 - ((t.steps + 1 : Nat) : Int) else if t.cf.src = 2 then 4 - ((t.steps + 1 : Nat) : Int) else if t.cf.src = 4 then t.cf.del + 2 - ((t.steps + 1 : Nat) : Int) else 1 := by
      unfold TickS.left; simp only; rw [if_neg (show ¬ (t.core n (min now 16777215) m).1.phase ≠ 0 from fun h => h hT), c1]
    have e2 : t.left = if t.cf.src = 1 then (t.cf.t : Int) + 1 - t.steps else if t.cf.src = 2 then 4 - (t.steps : Int) else if t.cf.src = 4 then t.cf.del + 2 - t.steps else 1 := by
      unfold TickS.left; rw [if_neg (show ¬ t.phase ≠ 0 from fun h => h hp)]
    rw [e1, e2]
    rcases (show t.cf.src = 0 ∨ t.cf.src = 1 ∨ t.cf.src = 2 ∨ t.cf.src = 3 ∨ t.cf.src = 4 by omega) with h | h | h | h | h
    · exact (g0 h).elim
    · rw [if_pos h, if_pos h]; omega
    · rw [h]; simp only [Int.reduceEq, if_false, if_true]; omega
    · exact (g3 h).elim
    · rw [h]; simp only [Int.reduceEq, if_false, if_true]; omega
  · have z : TickS.left { (t.core n (min now 16777215) m).1 with steps := t.steps + 1 } = 0 := by unfold TickS.left; rw [if_pos hT]
    rw [z]; omega

theorem claim_left0 {c : ClaimS} (ho : c.Ok) : 0 ≤ c.left ∧ (c.phase = 0 → 1 ≤ c.left) := by
  obtain ⟨o1, o2, o3, o4, o5, o6⟩ := ho
  unfold ClaimS.left
  by_cases hp : c.phase = 0
  · rw [if_neg (by omega)]
    have hm : 0 ≤ ((c.cf.s : Int) - c.k - 1) * ((c.cf.t : Int) + 1) := Int.mul_nonneg (by omega) (by omega)
    have := o4 hp
    refine ⟨?_, fun _ => ?_⟩
    all_goals split <;> omega
  · rw [if_pos hp]
    exact ⟨by omega, fun h => absurd h hp⟩

theorem pass_left {c : ClaimS} (h2 : c.k < c.cf.s) (hp : c.phase = 0) : c.pass.left ≤ ((c.cf.s : Int) - c.k - 1) * ((c.cf.t : Int) + 1) := by
  have hm : 0 ≤ ((c.cf.s : Int) - c.k - 1) * ((c.cf.t : Int) + 1) := Int.mul_nonneg (by omega) (by omega)
  unfold ClaimS.pass
  split
  · unfold ClaimS.left; rw [if_pos (by simp)]; exact hm
  · unfold ClaimS.left
    simp only
    rw [if_neg (by omega), if_pos (by omega)]
    have e : ((c.cf.s : Int) - c.k - 1) * ((c.cf.t : Int) + 1) = ((c.cf.s : Int) - ((c.k + 1 : Nat) : Int) - 1) * ((c.cf.t : Int) + 1) + ((c.cf.t : Int) + 1) := by
      rw [show ((c.cf.s : Int) - c.k - 1) = ((c.cf.s : Int) - ((c.k + 1 : Nat) : Int) - 1) + 1 by omega, Int.add_mul, Int.one_mul]
    omega

theorem claim_left {n : Nat} {c : ClaimS} {m : MemS} (ho : c.Ok) (hp : c.phase = 0) : (c.step n m).1.left + 1 ≤ c.left := by
  obtain ⟨o1, o2, o3, o4, o5, o6⟩ := ho
  have o4' := o4 hp
  have hps := pass_left o2 hp
  have hpw : ∀ x, ({ c with word := x } : ClaimS).pass.left ≤ ((c.cf.s : Int) - c.k - 1) * ((c.cf.t : Int) + 1) := fun x => pass_left (c := { c with word := x }) o2 hp
  have hm : 0 ≤ ((c.cf.s : Int) - c.k - 1) * ((c.cf.t : Int) + 1) := Int.mul_nonneg (by omega) (by omega)
  have hl : c.left = ((c.cf.s : Int) - c.k - 1) * ((c.cf.t : Int) + 1) + (if c.guard < 0 then (c.cf.t : Int) + 1 else (c.cf.t : Int) - c.guard) := by unfold ClaimS.left; rw [if_neg (by omega)]
  unfold ClaimS.step
  rw [if_neg (by omega)]
  split
  · rename_i hg
    rw [if_pos hg] at hl
    simp only
    unfold ClaimS.look
    split
    · have := hpw (unpk (m.at c.slot)); omega
    · split
      · have z : ClaimS.left { c with word := unpk (m.at c.slot), phase := 1 } = 0 := by unfold ClaimS.left; rw [if_pos (by simp)]
        rw [z]; omega
      · split
        · have z : ClaimS.left { c with word := unpk (m.at c.slot), guard := 0 } = ((c.cf.s : Int) - c.k - 1) * ((c.cf.t : Int) + 1) + (c.cf.t : Int) := by
            unfold ClaimS.left; simp only; rw [if_neg (by omega), if_neg (by omega)]; omega
          rw [z]; omega
        · have := hpw (unpk (m.at c.slot)); omega
  · rename_i hg
    rw [if_neg hg] at hl
    split
    · show c.pass.left + 1 ≤ c.left
      omega
    · split
      · have z : ClaimS.left { c with guard := c.guard + 1, phase := 1 } = 0 := by unfold ClaimS.left; rw [if_pos (by simp)]
        rw [z]; omega
      · have z : ClaimS.left { c with guard := c.guard + 1 } = ((c.cf.s : Int) - c.k - 1) * ((c.cf.t : Int) + 1) + ((c.cf.t : Int) - (c.guard + 1)) := by
          unfold ClaimS.left; simp only; rw [if_neg (by omega), if_neg (by omega)]
        rw [z]; omega

theorem put_left0 {n : Nat} {P : PutS} (ho : P.Ok n) : 0 ≤ P.left ∧ (P.phase = 0 → 1 ≤ P.left) := by
  have h1 := (claim_left0 ho.co).1
  have h2 := (tick_left0 ho.to).1
  unfold PutS.left
  by_cases hp : P.phase = 0
  · rw [if_neg (by omega)]
    refine ⟨?_, fun _ => ?_⟩
    all_goals split <;> omega
  · rw [if_pos hp]
    exact ⟨by omega, fun h => absurd h hp⟩

theorem put_left {n : Nat} {P : PutS} {m : MemS} {now : Int} (ho : P.Ok n) (hp : P.phase = 0) (hu : ∀ k, U64 (m.at k)) (h0 : 0 ≤ now) : (P.step n now m).1.left + 1 ≤ P.left := by
  have h1 := (claim_left0 ho.co).1
  have h2 := (tick_left0 ho.to).1
  have hl : P.left = P.claim.left + P.tick.left + (if P.stored = true then 1 else 2) := by unfold PutS.left; rw [if_neg (by omega)]
  have hpos := (put_left0 ho).2 hp
  have zero : ∀ Q : PutS, Q.phase ≠ 0 → Q.left = 0 := fun Q h => by unfold PutS.left; rw [if_pos h]
  have some_ : ∀ Q : PutS, Q.phase = 0 → Q.left = Q.claim.left + Q.tick.left + (if Q.stored = true then 1 else 2) := fun Q h => by unfold PutS.left; rw [if_neg (by omega)]
  unfold PutS.step
  rw [if_neg (by omega)]
  split
  · rename_i hc
    have hcl := claim_left (n := n) (m := m) ho.co hc
    by_cases h : (P.claim.step n m).1.phase = 2
    · rw [zero _ (by simp only; rw [if_pos h]; decide)]; omega
    · rw [some_ _ (by simp only; rw [if_neg h])]; simp only; omega
  · rename_i hc
    have hc0 : P.claim.left = 0 := by unfold ClaimS.left; rw [if_pos hc]
    split
    · rename_i ht
      have htl := tick_left (n := n) (m := m) ho.to ht hu h0
      by_cases h : (P.tick.step n now m).1.phase = 2
      · rw [zero _ (by simp only; rw [if_pos h]; decide)]; omega
      · rw [some_ _ (by simp only; rw [if_neg h])]; simp only; omega
    · rename_i ht
      have ht0 : P.tick.left = 0 := by unfold TickS.left; rw [if_pos ht]
      split
      · rename_i hs
        have hl2 : P.left = 2 := by rw [hl, hs, hc0, ht0]; simp
        have hr : PutS.left { P with stored := true } = 1 := by
          rw [some_ { P with stored := true } hp]
          show P.claim.left + P.tick.left + _ = _
          rw [hc0, ht0]; simp
        show PutS.left { P with stored := true } + 1 ≤ _
        omega
      · rw [zero _ (by simp)]; omega

/-- How many steps a Put takes, at most. -/
def putMost (cf : Cf) : Int := (cf.s : Int) * ((cf.t : Int) + 1) + (if cf.src = 1 then (cf.t : Int) + 1 else if cf.src = 2 then 4 else if cf.src = 4 then cf.del + 2 else 1) + 2
theorem put0_left (cf : Cf) (who : Nat) (en value : Int) : (put0 cf who en value).left = putMost cf := by
  unfold PutS.left ClaimS.left TickS.left putMost put0 claim0 tick0
  simp only [ne_eq, not_true, if_false]
  rw [if_pos (by omega)]
  have e : (cf.s : Int) * ((cf.t : Int) + 1) = ((cf.s : Int) - ((0 : Nat) : Int) - 1) * ((cf.t : Int) + 1) + ((cf.t : Int) + 1) := by
    rw [show (cf.s : Int) = ((cf.s : Int) - ((0 : Nat) : Int) - 1) + 1 by omega, Int.add_mul, Int.one_mul]
    congr 2
    omega
  rw [e]
  simp

end Go.Proofs.Ytkcimjcmlibgpaa
