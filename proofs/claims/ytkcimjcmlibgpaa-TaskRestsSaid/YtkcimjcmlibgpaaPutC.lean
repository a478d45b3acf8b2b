/-
  What holds of a Claim, a Ticker, a Put goes on to hold behind a step, in plain numbers. Conditions: the cells are words of 64 bits.
-/
import Derived.Test.YtkcimjcmlibgpaaPutB
import Derived.Test.YtkcimjcmlibgpaaLawG
namespace Go.Proofs.Ytkcimjcmlibgpaa

theorem pass_ok {c : ClaimS} (h1 : c.who < c.cf.t) (h2 : c.k < c.cf.s) (hp : c.phase = 0) : c.pass.Ok ∧ c.pass.cf = c.cf ∧ c.pass.who = c.who := by
  unfold ClaimS.pass
  split
  · exact ⟨⟨h1, h2, by simp, fun h => by simp at h, by simp, fun h => by simp at h⟩, rfl, rfl⟩
  · refine ⟨⟨h1, by simp only; omega, by simp, fun _ => by simp only; omega, .inl hp, fun h => ?_⟩, rfl, rfl⟩
    simp only at h
    omega

theorem claim_ok {n : Nat} {c : ClaimS} {m : MemS} (ho : c.Ok) : (c.step n m).1.Ok ∧ (c.step n m).1.cf = c.cf ∧ (c.step n m).1.who = c.who := by
  unfold ClaimS.step
  split
  · exact ⟨ho, rfl, rfl⟩
  · rename_i hp
    have hp0 : c.phase = 0 := by omega
    obtain ⟨o1, o2, o3, o4, o5, o6⟩ := ho
    have o4' := o4 hp0
    split
    · simp only
      unfold ClaimS.look
      have hu : 0 ≤ (unpk (m.at c.slot)).gen := by simp only [unpk]; omega
      split
      · exact pass_ok (c := { c with word := unpk (m.at c.slot) }) o1 o2 hp0
      · rename_i hg
        split
        · rename_i hs
          refine ⟨⟨o1, o2, o3, fun h => by simp at h, by simp, fun _ => ⟨unpk_ok _ (by simp only [unpk] at hs; omega), by simp only; omega, .inl hs⟩⟩, rfl, rfl⟩
        · split
          · rename_i hs
            refine ⟨⟨o1, o2, by simp, fun _ => by simp only; omega, .inl hp0, fun _ => ⟨unpk_ok _ (by simp only [unpk] at hs; omega), by simp only; omega, .inr hs⟩⟩, rfl, rfl⟩
          · exact pass_ok (c := { c with word := unpk (m.at c.slot) }) o1 o2 hp0
    · rename_i hg
      have hw := o6 (.inl (by omega))
      split
      · exact pass_ok o1 o2 hp0
      · split
        · exact ⟨⟨o1, o2, by simp only; omega, fun h => by simp at h, by simp, fun _ => hw⟩, rfl, rfl⟩
        · exact ⟨⟨o1, o2, by simp only; omega, fun _ => by simp only; omega, .inl hp0, fun _ => hw⟩, rfl, rfl⟩

theorem claim_mem {n : Nat} {c : ClaimS} {m : MemS} (hu : ∀ k, U64 (m.at k)) : (c.step n m).2.cells.length = m.cells.length ∧ (c.step n m).2.log.length ≤ m.log.length + 1 ∧ ∀ k, U64 ((c.step n m).2.at k) := by
  unfold ClaimS.step
  repeat' split
  all_goals first | exact ⟨rfl, by simp, hu⟩ | exact ⟨by simp only [ld_cells], by simp only [ld_log]; omega, ld_u64 hu _ _⟩

theorem fin_phase (t : TickS) (lo hi : Int) : (t.fin lo hi).phase = 1 ∧ stOk (t.fin lo hi).lo (t.fin lo hi).hi ∨ (t.fin lo hi).phase = 2 := by
  unfold TickS.fin
  split
  · rename_i h; exact .inl ⟨rfl, h⟩
  · exact .inr rfl
theorem fin_cf (t : TickS) (lo hi : Int) : (t.fin lo hi).cf = t.cf ∧ (t.fin lo hi).who = t.who ∧ (t.fin lo hi).a = t.a := by
  unfold TickS.fin
  split <;> exact ⟨rfl, rfl, rfl⟩

/-- What holds of the core of a step. -/
structure CoreOk (t T : TickS) : Prop where
  cf : T.cf = t.cf
  who : T.who = t.who
  a0 : 0 ≤ T.a
  a1 : T.a ≤ 16777215
  ph : T.phase = 0 ∨ (T.phase = 1 ∧ stOk T.lo T.hi) ∨ T.phase = 2
  s0 : T.phase = 0 → T.cf.src = 0 → False
  s1 : T.phase = 0 → T.cf.src = 1 → t.steps + 1 ≤ t.cf.t
  s2 : T.phase = 0 → T.cf.src = 2 → t.steps + 1 ≤ 3
  s3 : T.phase = 0 → T.cf.src = 3 → False
  s4 : T.phase = 0 → T.cf.src = 4 → (t.steps : Int) ≤ t.cf.del

theorem CoreOk.fin {t u : TickS} {lo hi : Int} (h1 : u.cf = t.cf) (h2 : u.who = t.who) (h3 : 0 ≤ u.a) (h4 : u.a ≤ 16777215) : CoreOk t (u.fin lo hi) := by
  obtain ⟨f1, f2, f3⟩ := fin_cf u lo hi
  have hp := fin_phase u lo hi
  exact ⟨f1.trans h1, f2.trans h2, by rw [f3]; exact h3, by rw [f3]; exact h4, .inr hp, fun h _ => by omega, fun h _ => by omega, fun h _ => by omega, fun h _ => by omega, fun h _ => by omega⟩

theorem core_ok {n : Nat} {t : TickS} {m : MemS} {now : Int} (ho : t.Ok) (hp : t.phase = 0) (hu : ∀ k, U64 (m.at k)) (h0 : 0 ≤ now) (h1 : now ≤ 16777215) : CoreOk t (t.core n now m).1 := by
  obtain ⟨a0, a1, a2, a3, a4, a5, a6, a7, a8, b0, b1, b2, b3, b4⟩ := ho
  unfold TickS.core
  split
  · exact CoreOk.fin rfl rfl a6 a7
  · rename_i c0
    split
    · rename_i c1
      unfold TickS.stut
      split
      · rename_i hs
        have hb := ld_bounds (n := n) (t := t) (k := t.steps) hu
        refine ⟨rfl, rfl, by simp only; omega, by simp only; omega, .inl hp, fun _ h => absurd h c0, fun _ _ => by omega, fun _ h => ?_, fun _ h => ?_, fun _ h => ?_⟩
        all_goals (simp only at h; omega)
      · exact CoreOk.fin rfl rfl a6 a7
    · rename_i c1
      split
      · rename_i c2
        have hb := ld_bounds (n := n) (t := t) (k := 0) hu
        unfold TickS.swp
        split
        · split
          · refine ⟨rfl, rfl, by simp only; omega, by simp only; omega, .inr (.inr rfl), fun h _ => ?_, fun h _ => ?_, fun h _ => ?_, fun h _ => ?_, fun h _ => ?_⟩
            all_goals (simp at h)
          · refine ⟨rfl, rfl, by simp only; omega, by simp only; omega, .inl hp, fun _ h => ?_, fun _ h => ?_, fun _ _ => by omega, fun _ h => ?_, fun _ h => ?_⟩
            all_goals (simp only at h; omega)
        · split
          · split
            · refine ⟨rfl, rfl, a6, a7, .inl hp, fun _ h => ?_, fun _ h => ?_, fun _ _ => by omega, fun _ h => ?_, fun _ h => ?_⟩
              all_goals (simp only at h; omega)
            · exact CoreOk.fin rfl rfl a6 a7
          · split
            · split
              · exact CoreOk.fin rfl rfl a6 a7
              · refine ⟨rfl, rfl, a6, a7, .inl hp, fun _ h => ?_, fun _ h => ?_, fun _ _ => by omega, fun _ h => ?_, fun _ h => ?_⟩
                all_goals (simp only at h; omega)
            · exact CoreOk.fin rfl rfl a6 a7
      · rename_i c2
        split
        · rename_i c4
          unfold TickS.wide
          split
          · rename_i hd
            split
            · refine ⟨rfl, rfl, h0, h1, .inl hp, fun _ h => ?_, fun _ h => ?_, fun _ h => ?_, fun _ h => ?_, fun _ _ => hd⟩
              all_goals (simp only at h; omega)
            · refine ⟨rfl, rfl, a6, a7, .inl hp, fun _ h => ?_, fun _ h => ?_, fun _ h => ?_, fun _ h => ?_, fun _ _ => hd⟩
              all_goals (simp only at h; omega)
          · split
            · exact CoreOk.fin rfl rfl h0 h1
            · exact CoreOk.fin rfl rfl a6 a7
        · exact CoreOk.fin rfl rfl a6 a7

theorem tick_ok {n : Nat} {t : TickS} {m : MemS} {now : Int} (ho : t.Ok) (hu : ∀ k, U64 (m.at k)) (h0 : 0 ≤ now) :
    (t.step n now m).1.Ok ∧ (t.step n now m).1.cf = t.cf ∧ (t.step n now m).1.who = t.who ∧ (t.phase = 0 → (t.step n now m).1.phase = 1 → stOk (t.step n now m).1.lo (t.step n now m).1.hi) := by
  unfold TickS.step
  split
  · rename_i hp
    exact ⟨ho, rfl, rfl, fun h => absurd h hp⟩
  · rename_i hp
    have hp0 : t.phase = 0 := by omega
    have hc := core_ok (n := n) (now := min now 16777215) ho hp0 hu (by omega) (by omega)
    obtain ⟨c1, c2, c3, c4, c5, c6, c7, c8, c9, c10⟩ := hc
    refine ⟨⟨by simp only [c1]; exact ho.src0, by simp only [c1]; exact ho.src1, by simp only [c1]; exact ho.del0, by simp only [c1]; exact ho.del1, by simp only [c1]; exact ho.tt, by simp only [c1, c2]; exact ho.who, c3, c4, by simp only; omega, fun h1 h2 => (c6 h1 h2).elim, fun h1 h2 => ?_, fun h1 h2 => ?_, fun h1 h2 => (c9 h1 h2).elim, fun h1 h2 => ?_⟩, c1, c2, fun _ h => ?_⟩
    · have := c7 h1 h2; simp only [c1]; omega
    · have := c8 h1 h2; simp only; omega
    · have := c10 h1 h2; simp only [c1]; omega
    · simp only at h ⊢
      rcases c5 with c5 | ⟨_, c5⟩ | c5
      · omega
      · exact c5
      · omega

theorem tick_mem {n : Nat} {t : TickS} {m : MemS} {now : Int} (ho : t.Ok) (hu : ∀ k, U64 (m.at k)) : (t.step n now m).2.cells.length = m.cells.length ∧ (t.step n now m).2.log.length ≤ m.log.length + 1 ∧ ∀ k, U64 ((t.step n now m).2.at k) := by
  have h6 := ho.a0
  have h7 := ho.a1
  have u1 : U64 (t.a + 1) := ⟨by omega, by omega⟩
  have u2 : U64 ((m.at (t.num n 0) + 1) % 18446744073709551616) := ⟨by omega, by omega⟩
  unfold TickS.step
  split
  · exact ⟨rfl, by simp, hu⟩
  · unfold TickS.core TickS.stut TickS.swp
    repeat' split
    all_goals first | exact ⟨rfl, by simp, hu⟩ | exact ⟨by simp only [ld_cells], by simp only [ld_log]; omega, ld_u64 hu _ _⟩ | exact ⟨by simp only [put_cells_len], by simp only [put_log]; omega, put_u64 hu _ _ _ _ _ u2⟩ | exact ⟨by simp only [put_cells_len], by simp only [put_log]; omega, put_u64 hu _ _ _ _ _ u1⟩ | exact ⟨by simp only [put_cells_len], by simp only [put_log]; omega, put_u64 hu _ _ _ _ _ (hu _)⟩

theorem put_ok {n : Nat} {P : PutS} {m : MemS} {now : Int} (ho : P.Ok n) (hu : ∀ k, U64 (m.at k)) (h0 : 0 ≤ now) : (P.step n now m).1.Ok n ∧ (P.step n now m).1.cf = P.cf ∧ (P.step n now m).1.who = P.who := by
  unfold PutS.step
  split
  · exact ⟨ho, rfl, rfl⟩
  · rename_i hp
    have hp0 : P.phase = 0 := by omega
    obtain ⟨o1, o2, o3, o4, o5, o6, o7, o8, o9, o10, o11, o12, o13⟩ := ho
    split
    · obtain ⟨k1, k2, k3⟩ := claim_ok (n := n) (m := m) o8
      refine ⟨⟨o1, o2, o3, by simp only [k2]; exact o4, by simp only [k3]; exact o5, o6, o7, k1, o9, ?_, ?_, fun _ => o12 hp0, o13⟩, rfl, rfl⟩
      · simp only; split <;> omega
      · simp only; intro h; split at h <;> omega
    · split
      · obtain ⟨k1, k2, k3, k4⟩ := tick_ok (n := n) (m := m) o9 hu h0
        refine ⟨⟨o1, o2, o3, o4, o5, by simp only [k2]; exact o6, by simp only [k3]; exact o7, o8, k1, ?_, fun _ => o11 hp0, ?_, fun h => k4 (by assumption) h⟩, rfl, rfl⟩
        · simp only; split <;> omega
        · simp only; intro h; split at h <;> omega
      · split
        · exact ⟨⟨o1, o2, o3, o4, o5, o6, o7, o8, o9, .inl hp0, o11, o12, o13⟩, rfl, rfl⟩
        · exact ⟨⟨o1, o2, o3, o4, o5, o6, o7, o8, o9, .inr (.inl rfl), fun h => by simp at h, fun h => by simp at h, o13⟩, rfl, rfl⟩

theorem put_mem {n : Nat} {P : PutS} {m : MemS} {now : Int} (ho : P.Ok n) (hu : ∀ k, U64 (m.at k)) : (P.step n now m).2.cells.length = m.cells.length ∧ (P.step n now m).2.log.length ≤ m.log.length + 1 ∧ ∀ k, U64 ((P.step n now m).2.at k) := by
  unfold PutS.step
  split
  · exact ⟨rfl, by simp, hu⟩
  · rename_i hp
    split
    · exact claim_mem hu
    · rename_i hc
      split
      · exact tick_mem ho.to hu
      · rename_i ht
        split
        · exact ⟨by simp only [put_cells_len], by simp only [put_log]; omega, put_u64 hu _ _ _ _ _ ho.v⟩
        · have hc1 : P.claim.phase = 1 := by
            have h1 := ho.co.ph
            have h2 := ho.c2 (by omega)
            omega
          have ht1 : P.tick.phase = 1 := by
            have h1 := ho.to.ph
            have h2 := ho.t2 (by omega)
            omega
          obtain ⟨w1, w2, _⟩ := ho.co.wd (.inr hc1)
          exact ⟨by simp only [put_cells_len], by simp only [put_log]; omega, put_u64 hu _ _ _ _ _ (pack_u64 _ (next_ok w1 w2 ho.en (ho.ts ht1)))⟩

theorem put0_ok {cf : Cf} {who n : Nat} {en value : Int} (hf1 : 1 ≤ cf.t) (hf2 : cf.t ≤ 64) (hf3 : 1 ≤ cf.s) (hs0 : 0 ≤ cf.src) (hs1 : cf.src ≤ 4) (hd0 : 0 ≤ cf.del) (hd1 : cf.del ≤ 100) (hw : who < cf.t) (he : en = 0 ∨ en = 1) (hv : U64 value) : (put0 cf who en value).Ok n :=
  ⟨hw, he, hv, rfl, rfl, rfl, rfl, ⟨hw, by simp only [put0, claim0]; omega, by simp [put0, claim0], fun _ => by simp only [put0, claim0]; omega, .inl rfl, fun h => by simp [put0, claim0] at h⟩,
    ⟨hs0, hs1, hd0, hd1, hf2, hw, by simp [put0, tick0], by simp [put0, tick0], .inl rfl, fun _ _ => rfl, fun _ _ => by simp [put0, tick0], fun _ _ => by simp [put0, tick0], fun _ _ => rfl, fun _ _ => by simp only [put0, tick0]; omega⟩,
    .inl rfl, fun _ => by simp [put0, claim0], fun _ => by simp [put0, tick0], fun h => by simp [put0, tick0] at h⟩

end Go.Proofs.Ytkcimjcmlibgpaa
