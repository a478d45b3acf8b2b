/-
  Package tick: a step as a function; a new one; what it tells. Conditions: the cells fit the layout; the thread is there; the log is short.
-/
import Derived.Test.YtkcimjcmlibgpaaTickB
namespace Go.Proofs.Ytkcimjcmlibgpaa
open Go.RowKit

/-- What a step of wide does. -/
def TickS.wide (now : Int) (t : TickS) : TickS :=
  if (t.steps : Int) ≤ t.cf.del then (if t.steps = 0 then { t with a := now } else t)
  else (if t.steps = 0 then { t with a := now } else t).fin (if t.steps = 0 then now else t.a) now
/-- What a step does, but for its count. -/
def TickS.core (n : Nat) (now : Int) (t : TickS) (m : MemS) : TickS × MemS :=
  if t.cf.src = 0 then (t.fin (t.ld n m 0) (t.ld n m 0), m.put t.who 3 (t.num n 0) ((m.at (t.num n 0) + 1) % 18446744073709551616) true)
  else if t.cf.src = 1 then t.stut n m
  else if t.cf.src = 2 then t.swp n m
  else if t.cf.src = 4 then (t.wide now, m)
  else (t.fin now now, m)
/-- A step of a Ticker, at a time. -/
def TickS.step (n : Nat) (now : Int) (t : TickS) (m : MemS) : TickS × MemS :=
  if t.phase ≠ 0 then (t, m) else ({ (t.core n (min now 16777215) m).1 with steps := t.steps + 1 }, (t.core n (min now 16777215) m).2)

theorem fin_steps (t : TickS) (lo hi : Int) : (t.fin lo hi).steps = t.steps := by unfold TickS.fin; split <;> rfl
theorem stut_steps (n : Nat) (t : TickS) (m : MemS) : (t.stut n m).1.steps = t.steps := by
  unfold TickS.stut; split
  · rfl
  · exact fin_steps _ _ _
theorem swp_steps (n : Nat) (t : TickS) (m : MemS) : (t.swp n m).1.steps = t.steps := by
  unfold TickS.swp
  repeat' split
  all_goals first | rfl | exact fin_steps _ _ _

/-- What holds of a Ticker under way. -/
structure TickS.Ok (t : TickS) : Prop where
  src0 : 0 ≤ t.cf.src
  src1 : t.cf.src ≤ 4
  del0 : 0 ≤ t.cf.del
  del1 : t.cf.del ≤ 100
  tt : t.cf.t ≤ 64
  who : t.who < t.cf.t
  a0 : 0 ≤ t.a
  a1 : t.a ≤ 16777215
  ph : t.phase = 0 ∨ t.phase = 1 ∨ t.phase = 2
  st0 : t.phase = 0 → t.cf.src = 0 → t.steps = 0
  st1 : t.phase = 0 → t.cf.src = 1 → t.steps ≤ t.cf.t
  st2 : t.phase = 0 → t.cf.src = 2 → t.steps ≤ 3
  st3 : t.phase = 0 → t.cf.src = 3 → t.steps = 0
  st4 : t.phase = 0 → t.cf.src = 4 → (t.steps : Int) ≤ t.cf.del + 1

theorem tick_over (w : World) (tb p : Nat) (t : TickS) (m : MemS) (now : Int) (h : t.phase = 1 ∨ t.phase = 2) :
    Tri w 73 #[.pointer (some ⟨tb, 0, none⟩), .pointer (some ⟨p, 0, none⟩), .int .i64 now] (tickP tb t * memP p m)
      fun e R => e = .returned (.int .i64 t.phase) ∧ R = tickP tb t * memP p m := by
  refine Tri.walk fun F S0 => ?_
  have HS0 := Lib.hid S0
  obtain ⟨hrc, hrf⟩ := blk_S S0.blk
  obtain ⟨⟨ct, cs, src, del⟩, who, steps, a, b, l0, h0, phase⟩ := t
  simp only [TickS.row] at hrc
  simp only at h
  clear S0
  rcases h with rfl | rfl
  all_goals
    go_enter Try.func73, Try.ntmps73
    go_wp2
    go_ret
    exact ⟨_, ⟨rfl, rfl⟩, HS0.out⟩

set_option maxHeartbeats 4000000 in
theorem tick_count (w : World) (tb p n : Nat) (t : TickS) (m : MemS) (now : Int) (hf : Fits t.cf n m) (hwho : t.who < t.cf.t) (hlog : m.log.length < 1099511627776) (hst : t.steps ≤ 1000) (hph : t.phase = 0) (hsrc : t.cf.src = 0) :
    Tri w 73 #[.pointer (some ⟨tb, 0, none⟩), .pointer (some ⟨p, 0, none⟩), .int .i64 now] (tickP tb t * memP p m)
      fun e R => e = .returned (.int .i64 (t.step n now m).1.phase) ∧ R = tickP tb (t.step n now m).1 * memP p (t.step n now m).2 := by
  refine Tri.walk fun F S0 => ?_
  obtain ⟨⟨ct, cs, src, del⟩, who, steps, a, b, l0, h0, phase⟩ := t
  obtain ⟨hn, ht0, ht1, hs0, hs1, hlen⟩ := hf
  simp only at hn ht0 ht1 hs0 hs1 hlen hwho
  have hle := mul_le ct cs ht1 hs1
  rw [← hn] at hle
  have HN := Lib.hid hn
  have HS0 := Lib.hid S0
  have HLen := Lib.hid hlen
  have hu0 := (S0.cast (HP.star_comm _ _)).u64
  obtain ⟨hrc, hrf⟩ := blk_S (S0).blk; simp only [TickS.row] at hrc; have hbt := blk_lt (S0).blk
  clear S0 hn hlen
  simp only at hph hsrc hst
  subst hph hsrc
  have hk : 2 * n + ct + 0 < m.cells.length := by have := HLen.out; omega
  have hu := hu0 (2 * n + ct + 0)
  have e0 : TickS.step n now ⟨⟨ct, cs, 0, del⟩, who, steps, a, b, l0, h0, 0⟩ m = ({ (⟨⟨ct, cs, 0, del⟩, who, steps, a, b, l0, h0, 0⟩ : TickS).fin (min (m.at (2 * n + ct + 0)) 16777215) (min (m.at (2 * n + ct + 0)) 16777215) with steps := steps + 1 }, m.put who 3 (2 * n + ct + 0) ((m.at (2 * n + ct + 0) + 1) % 18446744073709551616) true) := by
    unfold TickS.step TickS.core; rw [if_neg (by simp), if_pos rfl]; rfl
  rw [e0]
  clear e0 hu0
  have HAdd := Lib.hid (fun w' => add_tri w' p m who 1 (2 * n + ct + 0) hk hlog)
  obtain ⟨V, hV⟩ : ∃ V, m.at (2 * n + ct + 0) = V := ⟨_, rfl⟩
  rw [hV] at HAdd hu ⊢
  obtain ⟨v0, v1⟩ := hu
  have hmx : 0 ≤ min V 16777215 ∧ min V 16777215 ≤ 16777215 := by omega
  generalize hMM : min V 16777215 = MM at hmx
  have hMw : IntKind.i64.wrap MM = MM := w64 (by omega) (by omega)
  have hsw : IntKind.i64.wrap ((steps : Int) + 1) = (steps : Int) + 1 := w64 (by omega) (by omega)
  have HDn := Lib.hid (fun w' => tick_done w' tb ⟨⟨ct, cs, 0, del⟩, who, steps, a, b, l0, h0, 0⟩ MM MM)
  clear v0 v1 hmx
  go_enter Try.func73, Try.ntmps73
  go_wp2_with fail
  go_region_held3 (fun w' => (∀ o, o < 5 → w'.cell? ⟨tb, o, none⟩ = (#[.int .i64 ct, .int .i64 cs, .int .i64 0, .int .i64 del, .int .i64 who, .int .i64 steps, .int .i64 a, .int .i64 b, .int .i64 l0, .int .i64 h0, .int .i64 0] : Array Value)[o]?))
    (first | exact fun o ho => (blk_cell S4.blk o).trans (fin_row _ _ _ o (by omega)) | exact fun o _ => blk_cell S3.blk o | exact fun o _ => blk_cell S2.blk o | exact fun o _ => blk_cell S1.blk o | exact fun o _ => blk_cell (blk_drew HS0.out.blk) o)
    (first | (go_at_call 85; refine (lay_number _ ct cs 0 del ht1 hs1 0 (by omega) n HN.out).mono ?_; rintro e w1 ⟨rfl, q1⟩; have S1 := HS0.out.drew.ext q1) | (go_at_call 84; refine ((S1.cast (HP.star_comm _ _)).call (HAdd.out _)).mono ?_; rintro e w2 ⟨_, ⟨rfl, rfl⟩, S2'⟩; have S2 := S2'.cast (HP.star_comm _ _)) | (go_at_call 83; refine (tick_point _ MM).mono ?_; rintro e w3 ⟨rfl, q3⟩; have S3 := S2.ext q3) | (go_at_call 82; refine (S3.call (HDn.out _)).mono ?_; rintro e w4 ⟨_, ⟨rfl, rfl⟩, S4⟩))
  have HS4 := Lib.hid S4
  clear S4 S3 S2 S2' S1 q1 q3 hrc hrf hbt
  have hc5 := (blk_cell (HS4.out).blk 5).trans (show ((⟨⟨ct, cs, 0, del⟩, who, steps, a, b, l0, h0, 0⟩ : TickS).fin MM MM).row[5]? = some (.int .i64 steps) from congrArg (fun s : Nat => some (Value.int .i64 (s : Int))) (fin_steps _ _ _)); have hc10 := (blk_cell (HS4.out).blk 10).trans (show ((⟨⟨ct, cs, 0, del⟩, who, steps, a, b, l0, h0, 0⟩ : TickS).fin MM MM).row[10]? = some (.int .i64 ((⟨⟨ct, cs, 0, del⟩, who, steps, a, b, l0, h0, 0⟩ : TickS).fin MM MM).phase) from rfl); have hf5 := blk_free (HS4.out).blk 5; have hbt := blk_lt (HS4.out).blk
  go_wp2
  go_ret
  refine ⟨_, ⟨rfl, rfl⟩, ?_⟩
  refine (HS4.out.set 5 (.int .i64 ((steps : Int) + 1))).cast ?_
  simp [tickP, TickS.row]

set_option maxHeartbeats 4000000 in
theorem tick_sub (w : World) (tb p n : Nat) (t : TickS) (m : MemS) (now : Int) (hf : Fits t.cf n m) (hwho : t.who < t.cf.t) (hst : t.steps ≤ 1000) (hph : t.phase = 0) (T : TickS) (M : MemS) (hT : T.steps = t.steps)
    (h : (t.cf.src = 1 ∧ ∀ w, Tri w 86 #[.pointer (some ⟨tb, 0, none⟩), .pointer (some ⟨p, 0, none⟩)] (tickP tb t * memP p m) fun e R => e = .returned (.tuple #[]) ∧ R = tickP tb T * memP p M) ∨
      (t.cf.src = 2 ∧ ∀ w, Tri w 87 #[.pointer (some ⟨tb, 0, none⟩), .pointer (some ⟨p, 0, none⟩)] (tickP tb t * memP p m) fun e R => e = .returned (.tuple #[]) ∧ R = tickP tb T * memP p M)) :
    Tri w 73 #[.pointer (some ⟨tb, 0, none⟩), .pointer (some ⟨p, 0, none⟩), .int .i64 now] (tickP tb t * memP p m)
      fun e R => e = .returned (.int .i64 T.phase) ∧ R = tickP tb { T with steps := t.steps + 1 } * memP p M := by
  refine Tri.walk fun F S0 => ?_
  obtain ⟨⟨ct, cs, src, del⟩, who, steps, a, b, l0, h0, phase⟩ := t
  obtain ⟨hn, ht0, ht1, hs0, hs1, hlen⟩ := hf
  simp only at hn ht0 ht1 hs0 hs1 hlen hwho
  have hle := mul_le ct cs ht1 hs1
  rw [← hn] at hle
  have HN := Lib.hid hn
  have HS0 := Lib.hid S0
  have HLen := Lib.hid hlen
  have hu0 := (S0.cast (HP.star_comm _ _)).u64
  obtain ⟨hrc, hrf⟩ := blk_S (S0).blk; simp only [TickS.row] at hrc; have hbt := blk_lt (S0).blk
  clear S0 hn hlen
  simp only at hph hst hT h
  subst hph
  have hsw : IntKind.i64.wrap ((steps : Int) + 1) = (steps : Int) + 1 := w64 (by omega) (by omega)
  rcases h with ⟨rfl, h⟩ | ⟨rfl, h⟩
  · have HC := Lib.hid h
    clear h hu0
    go_enter Try.func73, Try.ntmps73
    go_wp2_with (go_at_call 86; refine (HS0.out.call1 (HC.out _)).mono ?_; rintro e w4 ⟨_, ⟨rfl, rfl⟩, S4⟩; have HS4 := Lib.hid S4; clear S4 hrc hrf hbt; have hc5 := (blk_cell (HS4.out).blk 5).trans (show (T).row[5]? = some (.int .i64 steps) from congrArg (fun s : Nat => some (Value.int .i64 (s : Int))) hT); have hc10 := (blk_cell (HS4.out).blk 10).trans (show (T).row[10]? = some (.int .i64 (T).phase) from rfl); have hf5 := blk_free (HS4.out).blk 5; have hbt := blk_lt (HS4.out).blk)
    go_ret
    refine ⟨_, ⟨rfl, rfl⟩, ?_⟩
    refine (HS4.out.set 5 (.int .i64 ((steps : Int) + 1))).cast ?_
    simp [tickP, TickS.row]
  · have HC := Lib.hid h
    clear h hu0
    go_enter Try.func73, Try.ntmps73
    go_wp2_with (go_at_call 87; refine (HS0.out.call1 (HC.out _)).mono ?_; rintro e w4 ⟨_, ⟨rfl, rfl⟩, S4⟩; have HS4 := Lib.hid S4; clear S4 hrc hrf hbt; have hc5 := (blk_cell (HS4.out).blk 5).trans (show (T).row[5]? = some (.int .i64 steps) from congrArg (fun s : Nat => some (Value.int .i64 (s : Int))) hT); have hc10 := (blk_cell (HS4.out).blk 10).trans (show (T).row[10]? = some (.int .i64 (T).phase) from rfl); have hf5 := blk_free (HS4.out).blk 5; have hbt := blk_lt (HS4.out).blk)
    go_ret
    refine ⟨_, ⟨rfl, rfl⟩, ?_⟩
    refine (HS4.out.set 5 (.int .i64 ((steps : Int) + 1))).cast ?_
    simp [tickP, TickS.row]

set_option maxHeartbeats 4000000 in
theorem tick_clock (w : World) (tb p n : Nat) (t : TickS) (m : MemS) (now : Int) (hf : Fits t.cf n m) (hwho : t.who < t.cf.t) (hst : t.steps ≤ 1000) (hph : t.phase = 0) (hsrc : t.cf.src = 3) :
    Tri w 73 #[.pointer (some ⟨tb, 0, none⟩), .pointer (some ⟨p, 0, none⟩), .int .i64 now] (tickP tb t * memP p m)
      fun e R => e = .returned (.int .i64 (t.step n now m).1.phase) ∧ R = tickP tb (t.step n now m).1 * memP p (t.step n now m).2 := by
  refine Tri.walk fun F S0 => ?_
  obtain ⟨⟨ct, cs, src, del⟩, who, steps, a, b, l0, h0, phase⟩ := t
  obtain ⟨hn, ht0, ht1, hs0, hs1, hlen⟩ := hf
  simp only at hn ht0 ht1 hs0 hs1 hlen hwho
  have hle := mul_le ct cs ht1 hs1
  rw [← hn] at hle
  have HN := Lib.hid hn
  have HS0 := Lib.hid S0
  have HLen := Lib.hid hlen
  have hu0 := (S0.cast (HP.star_comm _ _)).u64
  obtain ⟨hrc, hrf⟩ := blk_S (S0).blk; simp only [TickS.row] at hrc; have hbt := blk_lt (S0).blk
  clear S0 hn hlen
  simp only at hph hsrc hst
  subst hph hsrc
  have e0 : TickS.step n now ⟨⟨ct, cs, 3, del⟩, who, steps, a, b, l0, h0, 0⟩ m = ({ (⟨⟨ct, cs, 3, del⟩, who, steps, a, b, l0, h0, 0⟩ : TickS).fin (min now 16777215) (min now 16777215) with steps := steps + 1 }, m) := by
    unfold TickS.step TickS.core; rw [if_neg (by simp), if_neg (by simp), if_neg (by simp), if_neg (by simp), if_neg (by simp)]
  rw [e0]
  clear e0 hu0
  generalize hMM : min now 16777215 = MM
  have hsw : IntKind.i64.wrap ((steps : Int) + 1) = (steps : Int) + 1 := w64 (by omega) (by omega)
  have HDn := Lib.hid (fun w' => tick_done w' tb ⟨⟨ct, cs, 3, del⟩, who, steps, a, b, l0, h0, 0⟩ MM MM)
  go_enter Try.func73, Try.ntmps73
  go_wp2_with (first | (go_at_call 83; refine (tick_point _ MM).mono ?_; rintro e w3 ⟨rfl, q3⟩; have HS3 := Lib.hid ((HS0.out.ext q3).alloc (.cells #[.int .i64 MM, .int .i64 MM] 57)); clear hrc hrf; obtain ⟨hrc, hrf⟩ := blk_S (HS3.out).blk; simp only [TickS.row] at hrc; have hbt := blk_lt (HS3.out).blk; clear q3) | (go_at_call 82; refine (HS3.out.call (HDn.out _)).mono ?_; rintro e w4 ⟨_, ⟨rfl, rfl⟩, S4⟩; have HS4 := Lib.hid S4; clear S4 hrc hrf hbt; have hc5 := (blk_cell (HS4.out).blk 5).trans (show ((⟨⟨ct, cs, 3, del⟩, who, steps, a, b, l0, h0, 0⟩ : TickS).fin MM MM).row[5]? = some (.int .i64 steps) from congrArg (fun s : Nat => some (Value.int .i64 (s : Int))) (fin_steps _ _ _)); have hc10 := (blk_cell (HS4.out).blk 10).trans (show ((⟨⟨ct, cs, 3, del⟩, who, steps, a, b, l0, h0, 0⟩ : TickS).fin MM MM).row[10]? = some (.int .i64 ((⟨⟨ct, cs, 3, del⟩, who, steps, a, b, l0, h0, 0⟩ : TickS).fin MM MM).phase) from rfl); have hf5 := blk_free (HS4.out).blk 5; have hbt := blk_lt (HS4.out).blk))
  go_ret
  refine ⟨_, ⟨rfl, rfl⟩, ?_⟩
  refine (HS4.out.set 5 (.int .i64 ((steps : Int) + 1))).cast ?_
  simp [tickP, TickS.row]

set_option maxHeartbeats 4000000 in
theorem tick_wide (w : World) (tb p n : Nat) (t : TickS) (m : MemS) (now : Int) (hf : Fits t.cf n m) (hwho : t.who < t.cf.t) (hst : t.steps ≤ 1000) (hph : t.phase = 0) (hsrc : t.cf.src = 4) (hd0 : 0 ≤ t.cf.del) :
    Tri w 73 #[.pointer (some ⟨tb, 0, none⟩), .pointer (some ⟨p, 0, none⟩), .int .i64 now] (tickP tb t * memP p m)
      fun e R => e = .returned (.int .i64 (t.step n now m).1.phase) ∧ R = tickP tb (t.step n now m).1 * memP p (t.step n now m).2 := by
  refine Tri.walk fun F S0 => ?_
  obtain ⟨⟨ct, cs, src, del⟩, who, steps, a, b, l0, h0, phase⟩ := t
  obtain ⟨hn, ht0, ht1, hs0, hs1, hlen⟩ := hf
  simp only at hn ht0 ht1 hs0 hs1 hlen hwho
  have hle := mul_le ct cs ht1 hs1
  rw [← hn] at hle
  have HN := Lib.hid hn
  have HS0 := Lib.hid S0
  have HLen := Lib.hid hlen
  have hu0 := (S0.cast (HP.star_comm _ _)).u64
  obtain ⟨hrc, hrf⟩ := blk_S (S0).blk; simp only [TickS.row] at hrc; have hbt := blk_lt (S0).blk
  clear S0 hn hlen
  simp only at hph hsrc hst
  subst hph hsrc
  have e0 : TickS.step n now ⟨⟨ct, cs, 4, del⟩, who, steps, a, b, l0, h0, 0⟩ m = ({ (⟨⟨ct, cs, 4, del⟩, who, steps, a, b, l0, h0, 0⟩ : TickS).wide (min now 16777215) with steps := steps + 1 }, m) := by
    unfold TickS.step TickS.core; rw [if_neg (by simp), if_neg (by simp), if_neg (by simp), if_neg (by simp), if_pos rfl]
  rw [e0]
  clear e0 hu0
  generalize hMM : min now 16777215 = MM
  have hsw : IntKind.i64.wrap ((steps : Int) + 1) = (steps : Int) + 1 := w64 (by omega) (by omega)
  simp only at hd0
  by_cases hs0' : steps = 0
  · subst hs0'
    have e1 : TickS.wide MM ⟨⟨ct, cs, 4, del⟩, who, 0, a, b, l0, h0, 0⟩ = ⟨⟨ct, cs, 4, del⟩, who, 0, MM, b, l0, h0, 0⟩ := by
      unfold TickS.wide; rw [if_pos (by simpa using hd0), if_pos rfl]
    rw [e1]
    go_enter Try.func73, Try.ntmps73
    go_wp2_with fail
    go_region
    go_wp2
    go_ret
    refine ⟨_, ⟨rfl, rfl⟩, ?_⟩
    refine (((HS0.out.set 6 (.int .i64 MM)).drew).set 5 (.int .i64 1)).cast ?_
    simp [tickP, TickS.row]
  · have hsz : ((steps : Int) == 0) = false := by simpa using hs0'
    have hsz2 : ¬ (steps : Int) = 0 := by omega
    by_cases hd : (steps : Int) ≤ del
    · have e1 : TickS.wide MM ⟨⟨ct, cs, 4, del⟩, who, steps, a, b, l0, h0, 0⟩ = ⟨⟨ct, cs, 4, del⟩, who, steps, a, b, l0, h0, 0⟩ := by
        unfold TickS.wide; rw [if_pos hd, if_neg hs0']
      rw [e1]
      go_enter Try.func73, Try.ntmps73
      go_wp2_with fail
      go_region
      go_wp2
      go_ret
      refine ⟨_, ⟨rfl, rfl⟩, ?_⟩
      refine ((HS0.out.drew).set 5 (.int .i64 ((steps : Int) + 1))).cast ?_
      simp [tickP, TickS.row]
    · have e1 : TickS.wide MM ⟨⟨ct, cs, 4, del⟩, who, steps, a, b, l0, h0, 0⟩ = (⟨⟨ct, cs, 4, del⟩, who, steps, a, b, l0, h0, 0⟩ : TickS).fin a MM := by
        unfold TickS.wide; rw [if_neg hd, if_neg hs0', if_neg hs0']
      rw [e1]
      have hdd : decide ((steps : Int) ≤ del) = false := by simpa using hd
      have HDn := Lib.hid (fun w' => tick_done w' tb ⟨⟨ct, cs, 4, del⟩, who, steps, a, b, l0, h0, 0⟩ a MM)
      go_enter Try.func73, Try.ntmps73
      go_wp2_with fail
      go_region
      have HS1 := Lib.hid HS0.out.drew
      go_wp2_with (first | (go_at_call 83; refine (tick_point _ MM).mono ?_; rintro e w3 ⟨rfl, q3⟩; have HS3 := Lib.hid (HS1.out.ext q3); clear hrc hrf hbt; obtain ⟨hrc, hrf⟩ := blk_S (HS1.out.ext q3).blk; simp only [TickS.row] at hrc; have hbt := blk_lt (HS1.out.ext q3).blk; have hne1 : w3.heap.size ≠ tb := (by omega); have hne2 : tb ≠ w3.heap.size := (by omega); clear q3) | (go_at_call 82; refine ((HS3.out.alloc _).call (HDn.out _)).mono ?_; rintro e w4 ⟨_, ⟨rfl, rfl⟩, S4⟩; have HS4 := Lib.hid S4; clear S4 hrc hrf hbt; have hc5 := (blk_cell (HS4.out).blk 5).trans (show ((⟨⟨ct, cs, 4, del⟩, who, steps, a, b, l0, h0, 0⟩ : TickS).fin a MM).row[5]? = some (.int .i64 steps) from congrArg (fun s : Nat => some (Value.int .i64 (s : Int))) (fin_steps _ _ _)); have hc10 := (blk_cell (HS4.out).blk 10).trans (show ((⟨⟨ct, cs, 4, del⟩, who, steps, a, b, l0, h0, 0⟩ : TickS).fin a MM).row[10]? = some (.int .i64 ((⟨⟨ct, cs, 4, del⟩, who, steps, a, b, l0, h0, 0⟩ : TickS).fin a MM).phase) from rfl); have hf5 := blk_free (HS4.out).blk 5; have hbt := blk_lt (HS4.out).blk))
      go_ret
      refine ⟨_, ⟨rfl, rfl⟩, ?_⟩
      refine (HS4.out.set 5 (.int .i64 ((steps : Int) + 1))).cast ?_
      simp [tickP, TickS.row]

theorem TickS.Ok.steps {t : TickS} (h : t.Ok) (hp : t.phase = 0) : t.steps ≤ 1000 := by
  obtain ⟨a0, a1, a2, a3, a4, a5, a6, a7, a8, b0, b1, b2, b3, b4⟩ := h
  rcases (show t.cf.src = 0 ∨ t.cf.src = 1 ∨ t.cf.src = 2 ∨ t.cf.src = 3 ∨ t.cf.src = 4 by omega) with h | h | h | h | h
  · have := b0 hp h; omega
  · have := b1 hp h; omega
  · have := b2 hp h; omega
  · have := b3 hp h; omega
  · have := b4 hp h; omega

/-- A step of a Ticker. -/
theorem tick_step (w : World) (tb p n : Nat) (t : TickS) (m : MemS) (now : Int) (hf : Fits t.cf n m) (ho : t.Ok) (hlog : m.log.length < 1099511627776) :
    Tri w 73 #[.pointer (some ⟨tb, 0, none⟩), .pointer (some ⟨p, 0, none⟩), .int .i64 now] (tickP tb t * memP p m)
      fun e R => e = .returned (.int .i64 (t.step n now m).1.phase) ∧ R = tickP tb (t.step n now m).1 * memP p (t.step n now m).2 := by
  by_cases hp : t.phase = 0
  · have hst := ho.steps hp
    have hs0 := ho.src0
    have hs1 := ho.src1
    rcases (show t.cf.src = 0 ∨ t.cf.src = 1 ∨ t.cf.src = 2 ∨ t.cf.src = 3 ∨ t.cf.src = 4 by omega) with h | h | h | h | h
    · exact tick_count w tb p n t m now hf ho.who hlog hst hp h
    · have e : t.step n now m = ({ (t.stut n m).1 with steps := t.steps + 1 }, (t.stut n m).2) := by
        unfold TickS.step TickS.core; rw [if_neg (by omega), if_neg (by omega), if_pos h]
      rw [e]
      exact tick_sub w tb p n t m now hf ho.who hst hp (t.stut n m).1 (t.stut n m).2 (stut_steps n t m) (.inl ⟨h, fun w => tick_stutter w tb p n t m hf ho.who hlog ho.a0 ho.a1 hst⟩)
    · have e : t.step n now m = ({ (t.swp n m).1 with steps := t.steps + 1 }, (t.swp n m).2) := by
        unfold TickS.step TickS.core; rw [if_neg (by omega), if_neg (by omega), if_neg (by omega), if_pos h]
      rw [e]
      refine tick_sub w tb p n t m now hf ho.who hst hp (t.swp n m).1 (t.swp n m).2 (swp_steps n t m) (.inr ⟨h, fun w => ?_⟩)
      have h3 := ho.st2 hp h
      rcases (show t.steps = 0 ∨ t.steps = 1 ∨ t.steps = 2 ∨ t.steps = 3 by omega) with k | k | k | k
      · exact tick_swap0 w tb p n t m hf ho.who hlog k
      · exact tick_swap1 w tb p n t m hf ho.who hlog k
      · exact tick_swap2 w tb p n t m hf ho.who hlog k ho.a0 ho.a1
      · exact tick_swap3 w tb p n t m hf ho.who hlog k
    · exact tick_clock w tb p n t m now hf ho.who hst hp h
    · exact tick_wide w tb p n t m now hf ho.who hst hp h ho.del0
  · have e : t.step n now m = (t, m) := by unfold TickS.step; rw [if_pos hp]
    rw [e]
    exact tick_over w tb p t m now (ho.ph.resolve_left hp)

/-- A new Ticker. -/
def tick0 (cf : Cf) (who : Nat) : TickS := ⟨cf, who, 0, 0, 0, 0, 0, 0⟩
theorem tick_new (w : World) (ct cs who : Nat) (src del : Int) :
    Calls Try.prog 68 #[.agg #[.int .i64 ct, .int .i64 cs, .int .i64 src, .int .i64 del], .int .i64 who] w fun e w' =>
      ∃ tb, e = .returned (.pointer (some ⟨tb, 0, none⟩)) ∧ w.heap.size ≤ tb ∧ Blk w' tb (tick0 ⟨ct, cs, src, del⟩ who).row 134 ∧ Frm [] w w' := by
  go_enter Try.func68, Try.ntmps68
  go_wp2
  go_ret
  refine ⟨w.heap.size + 1, rfl, by omega, ?_, (Frm.alloc _ _ _).tr (Frm.alloc _ _ _)⟩
  have h := blk_new (w.alloc (.cells #[.int .i64 ct, .int .i64 cs, .int .i64 src, .int .i64 del] 27)) (tick0 ⟨ct, cs, src, del⟩ who).row 134
  rw [size_al] at h
  exact h
theorem tick_phase (w : World) (tb : Nat) (t : TickS) (h : Blk w tb t.row 134) :
    Calls Try.prog 72 #[.pointer (some ⟨tb, 0, none⟩)] w fun e w' => e = .returned (.int .i64 t.phase) ∧ w = w' := by
  obtain ⟨hrc, hrf⟩ := blk_S h
  obtain ⟨⟨ct, cs, src, del⟩, who, steps, a, b, l0, h0, phase⟩ := t
  simp only [TickS.row] at *
  clear h
  go_enter Try.func72, Try.ntmps72
  go_wp2
  go_ret
  exact ⟨rfl, rfl⟩
theorem tick_stamp (w : World) (tb : Nat) (t : TickS) (h : Blk w tb t.row 134) :
    Calls Try.prog 77 #[.pointer (some ⟨tb, 0, none⟩)] w fun e w' => e = .returned (.agg #[.int .i64 t.lo, .int .i64 t.hi]) ∧ Frm [] w w' := by
  have hbt := blk_lt h
  obtain ⟨hrc, hrf⟩ := blk_S h
  obtain ⟨⟨ct, cs, src, del⟩, who, steps, a, b, l0, h0, phase⟩ := t
  simp only [TickS.row] at *
  clear h
  go_enter Try.func77, Try.ntmps77
  go_wp2
  refine bodyPost_ret (v := .agg #[.int .i64 l0, .int .i64 h0]) (by simp [results, Try.results77, go_sem]) rfl ⟨rfl, Frm.alloc _ _ _⟩

end Go.Proofs.Ytkcimjcmlibgpaa
