/-
  Package take: a step as a function of what it is and of the cells. Conditions: the cells fit the layout; the place and the thread are there; the log is short.
-/
import Derived.Test.YtkcimjcmlibgpaaTakeB
namespace Go.Proofs.Ytkcimjcmlibgpaa
open Go.RowKit

def MemS.ld (m : MemS) (who k : Nat) : MemS := m.put who 0 k (m.at k) true

/-- A step of a Take. -/
def TakeS.step (n : Nat) (t : TakeS) (m : MemS) : TakeS × MemS :=
  if t.phase ≠ 0 then (t, m)
  else if t.lost = true then ({ t with phase := 2 }, m.put t.who 1 (2 * n + t.who) 0 true)
  else if t.steps = 0 then ({ t with steps := 1 }, m.put t.who 1 (2 * n + t.who) ((t.slot : Int) + 1) true)
  else if t.steps = 1 then ({ t with steps := 2, lost := decide (m.at t.slot ≠ t.word) }, m.ld t.who t.slot)
  else if t.steps = 2 then ({ t with steps := 3, value := m.at (n + t.slot) }, m.ld t.who (n + t.slot))
  else if t.steps = 3 then
    (if m.at t.slot = t.word then ({ t with steps := 4 }, m.put t.who 2 t.slot ((unpk t.word).taken.pack) true)
     else ({ t with steps := 4, lost := true }, m.put t.who 2 t.slot (m.at t.slot) false))
  else ({ t with steps := 5, phase := 1 }, m.put t.who 1 (2 * n + t.who) 0 true)

structure TakeS.Ok (t : TakeS) : Prop where
  ph : t.phase = 0 ∨ t.phase = 1 ∨ t.phase = 2
  st : t.phase = 0 → t.steps ≤ 4
  u : U64 t.word

theorem take_over (w : World) (tb : Nat) (pv : Value) (t : TakeS) (ht : Blk w tb t.row 113) (h : t.phase = 1 ∨ t.phase = 2) :
    Calls Try.prog 41 #[.pointer (some ⟨tb, 0, none⟩), pv] w fun e w' => e = .returned (.int .i64 t.phase) ∧ w = w' := by
  obtain ⟨hrc, hrf⟩ := blk_S ht
  obtain ⟨⟨ct, cs, src, del⟩, who, slot, word, steps, lost, value, phase⟩ := t
  simp only [TakeS.row] at *
  clear ht
  rcases h with rfl | rfl
  all_goals
    go_enter Try.func41, Try.ntmps41
    go_wp2
    go_ret
    exact ⟨rfl, rfl⟩

theorem U64_at {w : World} {p : Nat} {F : List Nat} {m : MemS} (hm : IsMem w p F m) (k : Nat) : U64 (m.at k) := by
  unfold MemS.at
  rw [List.getD_eq_getElem?_getD]
  rcases Nat.lt_or_ge k m.cells.length with h | h
  · rw [List.getElem?_eq_getElem h]; exact hm.bd _ (List.getElem_mem h)
  · rw [List.getElem?_eq_none h]; exact ⟨by decide, by decide⟩

theorem take_step (w : World) (tb p n : Nat) (F : List Nat) (m : MemS) (t : TakeS) (ht : Blk w tb t.row 113) (hm : IsMem w p F m) (htb : tb ∉ F) (hi : TakeIn t n m) (hok : t.Ok) :
    Calls Try.prog 41 #[.pointer (some ⟨tb, 0, none⟩), .pointer (some ⟨p, 0, none⟩)] w fun e w' => e = .returned (.int .i64 (t.step n m).1.phase) ∧
      ∃ F', Blk w' tb (t.step n m).1.row 113 ∧ IsMem w' p F' (t.step n m).2 ∧ Upd (tb :: F) (tb :: F') w w' ∧ tb ∉ F' := by
  by_cases hph : t.phase = 0
  · obtain ⟨cf, who, slot, word, steps, lost, value, phase⟩ := t
    obtain ⟨hfits, hwho, hslot, hlog⟩ := hi
    obtain ⟨hp, hst, hu⟩ := hok
    obtain ⟨ct, cs, src, del⟩ := cf
    simp only at hph hst hfits hwho hslot hu
    subst hph
    cases lost with
    | true => 
      have e : (TakeS.step n ⟨⟨ct, cs, src, del⟩, who, slot, word, steps, true, value, 0⟩ m) = (⟨⟨ct, cs, src, del⟩, who, slot, word, steps, true, value, 2⟩, m.put who 1 (2 * n + who) 0 true) := by simp [TakeS.step]
      rw [e]
      exact take_lost w tb p n F m ct cs who slot src del word value hm htb hfits hwho hlog steps ht
    | false =>
      have h4 := hst rfl
      obtain rfl | rfl | rfl | rfl | rfl : steps = 0 ∨ steps = 1 ∨ steps = 2 ∨ steps = 3 ∨ steps = 4 := by omega
      · have e : (TakeS.step n ⟨⟨ct, cs, src, del⟩, who, slot, word, 0, false, value, 0⟩ m) = (⟨⟨ct, cs, src, del⟩, who, slot, word, 1, false, value, 0⟩, m.put who 1 (2 * n + who) ((slot : Int) + 1) true) := by simp [TakeS.step]
        rw [e]
        exact take_step0 w tb p n F m ct cs who slot src del word value hm htb hfits hwho hlog hslot ht
      · by_cases hx : m.at slot = word
        · have e : (TakeS.step n ⟨⟨ct, cs, src, del⟩, who, slot, word, 1, false, value, 0⟩ m) = (⟨⟨ct, cs, src, del⟩, who, slot, word, 2, false, value, 0⟩, m.put who 0 slot (m.at slot) true) := by simp [TakeS.step, MemS.ld, hx]
          rw [e]
          subst hx
          exact take_step1_same w tb p n F m ct cs who slot src del value hm htb hfits hwho hlog hslot ht
        · have e : (TakeS.step n ⟨⟨ct, cs, src, del⟩, who, slot, word, 1, false, value, 0⟩ m) = (⟨⟨ct, cs, src, del⟩, who, slot, word, 2, true, value, 0⟩, m.put who 0 slot (m.at slot) true) := by simp [TakeS.step, MemS.ld, hx]
          rw [e]
          exact take_step1_other w tb p n F m ct cs who slot src del word value hm htb hfits hwho hlog hslot (by simpa using hx) ht
      · have e : (TakeS.step n ⟨⟨ct, cs, src, del⟩, who, slot, word, 2, false, value, 0⟩ m) = (⟨⟨ct, cs, src, del⟩, who, slot, word, 3, false, m.at (n + slot), 0⟩, m.put who 0 (n + slot) (m.at (n + slot)) true) := by simp [TakeS.step, MemS.ld]
        rw [e]
        exact take_step2 w tb p n F m ct cs who slot src del word value hm htb hfits hwho hlog hslot ht
      · by_cases hx : m.at slot = word
        · have e : (TakeS.step n ⟨⟨ct, cs, src, del⟩, who, slot, word, 3, false, value, 0⟩ m) = (⟨⟨ct, cs, src, del⟩, who, slot, word, 4, false, value, 0⟩, m.put who 2 slot ((unpk word).taken.pack) true) := by simp [TakeS.step, hx]
          rw [e]
          subst hx
          exact take_step3_same w tb p n F m ct cs who slot src del value hm htb hfits hwho hlog hslot hu ht
        · have e : (TakeS.step n ⟨⟨ct, cs, src, del⟩, who, slot, word, 3, false, value, 0⟩ m) = (⟨⟨ct, cs, src, del⟩, who, slot, word, 4, true, value, 0⟩, m.put who 2 slot (m.at slot) false) := by simp [TakeS.step, hx]
          rw [e]
          exact take_step3_other w tb p n F m ct cs who slot src del word value hm htb hfits hwho hlog hslot hu hx ht
      · have e : (TakeS.step n ⟨⟨ct, cs, src, del⟩, who, slot, word, 4, false, value, 0⟩ m) = (⟨⟨ct, cs, src, del⟩, who, slot, word, 5, false, value, 1⟩, m.put who 1 (2 * n + who) 0 true) := by simp [TakeS.step]
        rw [e]
        exact take_step4 w tb p n F m ct cs who slot src del word value hm htb hfits hwho hlog ht
  · have hp : t.phase = 1 ∨ t.phase = 2 := by have := hok.ph; omega
    have e : t.step n m = (t, m) := by unfold TakeS.step; rw [if_pos hph]
    rw [e]
    refine (take_over w tb _ t ht hp).mono ?_
    rintro r w' ⟨he, rfl⟩
    exact ⟨he, F, ht, hm, Upd.refl _ _, htb⟩

theorem take_new (w : World) (ct cs who slot : Nat) (src del word : Int) :
    Calls Try.prog 40 #[.agg #[.int .i64 ct, .int .i64 cs, .int .i64 src, .int .i64 del], .int .i64 who, .int .i64 slot, .int .u64 word] w fun e w' =>
      ∃ tb, e = .returned (.pointer (some ⟨tb, 0, none⟩)) ∧ w.heap.size ≤ tb ∧ Blk w' tb (TakeS.row ⟨⟨ct, cs, src, del⟩, who, slot, word, 0, false, 0, 0⟩) 113 ∧ Frm [] w w' := by
  go_enter Try.func40, Try.ntmps40
  go_wp2
  go_ret
  refine ⟨w.heap.size + 1, rfl, by omega, ?_, (Frm.alloc _ _ _).tr (Frm.alloc _ _ _)⟩
  have h := blk_new (w.alloc (.cells #[.int .i64 ct, .int .i64 cs, .int .i64 src, .int .i64 del] 27)) (TakeS.row ⟨⟨ct, cs, src, del⟩, who, slot, word, 0, false, 0, 0⟩) 113
  rw [size_al] at h
  exact h

theorem take_value_done (w : World) (tb : Nat) (t : TakeS) (ht : Blk w tb t.row 113) (h : t.phase = 1) :
    Calls Try.prog 42 #[.pointer (some ⟨tb, 0, none⟩)] w fun e w' => e = .returned (.int .u64 t.value) ∧ w = w' := by
  obtain ⟨hrc, hrf⟩ := blk_S ht
  obtain ⟨⟨ct, cs, src, del⟩, who, slot, word, steps, lost, value, phase⟩ := t
  simp only [TakeS.row] at *
  clear ht
  subst h
  go_enter Try.func42, Try.ntmps42
  go_wp2
  go_ret
  exact ⟨rfl, rfl⟩

end Go.Proofs.Ytkcimjcmlibgpaa
