/-
  Package tick: what a Ticker is; its end; a number loaded. Conditions: the cells fit the layout; the thread is there; the log is short.
-/
import Derived.Test.YtkcimjcmlibgpaaSx
import Derived.Deep.QuietTactic
import Derived.BigQuiet
import Derived.Deep.RegionHeld3
import Derived.Deep.RegionWith
namespace Go.Proofs.Ytkcimjcmlibgpaa
open Go.RowKit

structure TickS where
  cf : Cf
  who : Nat
  steps : Nat
  a : Int
  b : Int
  lo : Int
  hi : Int
  phase : Int

def TickS.row (t : TickS) : Array Value := #[.int .i64 t.cf.t, .int .i64 t.cf.s, .int .i64 t.cf.src, .int .i64 t.cf.del, .int .i64 t.who, .int .i64 t.steps, .int .i64 t.a, .int .i64 t.b, .int .i64 t.lo, .int .i64 t.hi, .int .i64 t.phase]
def tickP (tb : Nat) (t : TickS) : HP := blkP tb t.row 134
instance (lo hi : Int) : Decidable (stOk lo hi) := by unfold stOk; infer_instance
/-- It ends, by a stamp, if that is one. -/
def TickS.fin (t : TickS) (lo hi : Int) : TickS := if stOk lo hi then { t with lo := lo, hi := hi, phase := 1 } else { t with phase := 2 }
/-- The cell of a thread's number. -/
def TickS.num (n : Nat) (t : TickS) (k : Nat) : Nat := 2 * n + t.cf.t + k
/-- A number, as it is read. -/
def TickS.ld (n : Nat) (t : TickS) (m : MemS) (k : Nat) : Int := min (m.at (t.num n k)) 16777215

theorem tick_done (w : World) (tb : Nat) (t : TickS) (lo hi : Int) :
    Tri w 82 #[.pointer (some ⟨tb, 0, none⟩), .agg #[.int .i64 lo, .int .i64 hi]] (tickP tb t) fun e R => e = .returned (.tuple #[]) ∧ R = tickP tb (t.fin lo hi) := by
  refine Tri.walk fun F S0 => ?_
  have hbt := blk_lt S0.blk1
  obtain ⟨hrc, hrf⟩ := blk_S S0.blk1
  obtain ⟨⟨ct, cs, src, del⟩, who, steps, a, b, l0, h0, phase⟩ := t
  have HS0 := Lib.hid S0
  simp only [TickS.row] at hrc
  have hne1 : w.heap.size ≠ tb := by omega
  have hne2 : tb ≠ w.heap.size := by omega
  clear S0
  by_cases hok : stOk lo hi
  · have e1 : TickS.fin ⟨⟨ct, cs, src, del⟩, who, steps, a, b, l0, h0, phase⟩ lo hi = ⟨⟨ct, cs, src, del⟩, who, steps, a, b, lo, hi, 1⟩ := by unfold TickS.fin; rw [if_pos hok]
    rw [e1]
    go_enter Try.func82, Try.ntmps82
    go_wp2_with (go_at_call 51; refine (stamp_right_yes _ lo hi hok).mono ?_; rintro e w1 ⟨rfl, q1⟩; have HS1 := Lib.hid ((HS0.out.alloc _).ext q1); clear hrc hrf; obtain ⟨hrc, hrf⟩ := blk_S HS1.out.blk1; simp only [TickS.row] at hrc; have hb1 := blk_lt HS1.out.blk1; have hbx := fun o => blk_cell (blk_frm (blk_new w #[.int .i64 lo, .int .i64 hi] 57) q1 (by simp)) o; clear q1)
    go_region
    go_end0
    refine ⟨_, ⟨rfl, rfl⟩, ?_⟩
    refine ((((HS1.out.set1 10 (.int .i64 1)).set1 8 (.int .i64 lo)).set1 9 (.int .i64 hi)).drew).cast ?_
    simp [tickP, TickS.row]
  · have e1 : TickS.fin ⟨⟨ct, cs, src, del⟩, who, steps, a, b, l0, h0, phase⟩ lo hi = ⟨⟨ct, cs, src, del⟩, who, steps, a, b, l0, h0, 2⟩ := by unfold TickS.fin; rw [if_neg hok]
    rw [e1]
    go_enter Try.func82, Try.ntmps82
    go_wp2_with (go_at_call 51; refine (stamp_right_no _ lo hi hok).mono ?_; rintro e w1 ⟨rfl, q1⟩; have HS1 := Lib.hid ((HS0.out.alloc _).ext q1); clear hrc hrf; obtain ⟨hrc, hrf⟩ := blk_S HS1.out.blk1; simp only [TickS.row] at hrc; have hb1 := blk_lt HS1.out.blk1; clear q1)
    refine bodyPost_ret (results_none rfl _ _ _) rfl ⟨_, ⟨rfl, rfl⟩, ?_⟩
    refine (HS1.out.set1 10 (.int .i64 2)).cast ?_
    simp [tickP, TickS.row]

theorem tick_load (w : World) (tb p n : Nat) (t : TickS) (m : MemS) (k : Nat) (hk : k < t.cf.t) (hf : Fits t.cf n m) (hwho : t.who < t.cf.t) (hlog : m.log.length < 1099511627776) :
    Tri w 91 #[.pointer (some ⟨tb, 0, none⟩), .pointer (some ⟨p, 0, none⟩), .int .i64 k] (tickP tb t * memP p m)
      fun e R => e = .returned (.int .i64 (t.ld n m k)) ∧ R = tickP tb t * memP p (m.ld t.who (t.num n k)) := by
  refine Tri.walk fun F S0 => ?_
  obtain ⟨⟨ct, cs, src, del⟩, who, steps, a, b, l0, h0, phase⟩ := t
  obtain ⟨hn, ht0, ht1, hs0, hs1, hlen⟩ := hf
  simp only at hn ht0 ht1 hs0 hs1 hlen hwho
  have hle := mul_le ct cs ht1 hs1
  rw [← hn] at hle
  have HN := Lib.hid hn
  have HS0 := Lib.hid S0
  have HLen := Lib.hid hlen
  have hu0 := (S0.cast (HP.star_comm _ _)).u64
  obtain ⟨hrc, hrf⟩ := blk_S (S0).blk; simp only [TickS.row] at hrc; have hbt := blk_lt (S0).blk
  clear S0 hn hlen
  simp only at hk
  unfold TickS.ld TickS.num
  simp only
  have hkl : 2 * n + ct + k < m.cells.length := by have := HLen.out; omega
  have hu := hu0 (2 * n + ct + k)
  obtain ⟨V, hV⟩ : ∃ V, m.at (2 * n + ct + k) = V := ⟨_, rfl⟩
  have HLd := Lib.hid (fun w' => load_tri w' p m who (2 * n + ct + k) hkl hlog)
  rw [hV] at hu HLd ⊢
  obtain ⟨v0, v1⟩ := hu
  have hmx : 0 ≤ min V 16777215 ∧ min V 16777215 ≤ 16777215 := by omega
  generalize hMM : min V 16777215 = MM at hmx
  have hMw : IntKind.i64.wrap MM = MM := w64 (by omega) (by omega)
  clear hu0 v0 v1 hmx
  go_enter Try.func91, Try.ntmps91
  go_wp2_with fail
  go_region_held3 (fun w' => (∀ o, w'.cell? ⟨tb, o, none⟩ = (#[.int .i64 ct, .int .i64 cs, .int .i64 src, .int .i64 del, .int .i64 who, .int .i64 steps, .int .i64 a, .int .i64 b, .int .i64 l0, .int .i64 h0, .int .i64 phase] : Array Value)[o]?))
    (first | exact fun o => blk_cell S2.blk o | exact fun o => blk_cell S1.blk o | exact fun o => blk_cell (blk_drew HS0.out.blk) o)
    (first | (go_at_call 85; refine (lay_number _ ct cs src del ht1 hs1 k (by omega) n HN.out).mono ?_; rintro e w1 ⟨rfl, q1⟩; have S1 := HS0.out.drew.ext q1) | (go_at_call 63; refine ((S1.cast (HP.star_comm _ _)).call (HLd.out _)).mono ?_; rintro e w2 ⟨_, ⟨rfl, rfl⟩, S2'⟩; have S2 := S2'.cast (HP.star_comm _ _)))
  have HS2 := Lib.hid S2
  clear S2 S2' S1 q1
  go_wp2
  go_ret
  refine ⟨_, ⟨rfl, rfl⟩, HS2.out.cast ?_⟩
  unfold MemS.ld
  rw [hV]

theorem fits_ld {c : Cf} {n : Nat} {m : MemS} (h : Fits c n m) (who k : Nat) : Fits c n (m.ld who k) := h.put _ _ _ _ _

/-- A step of stutter. -/
def TickS.stut (n : Nat) (t : TickS) (m : MemS) : TickS × MemS :=
  if t.steps < t.cf.t then ({ t with a := max t.a (t.ld n m t.steps) }, m.ld t.who (t.num n t.steps))
  else (t.fin (t.a + 1) (t.a + 1), if stOk (t.a + 1) (t.a + 1) then m.put t.who 1 (t.num n t.who) (t.a + 1) true else m)

set_option maxHeartbeats 4000000 in
theorem tick_stutter (w : World) (tb p n : Nat) (t : TickS) (m : MemS) (hf : Fits t.cf n m) (hwho : t.who < t.cf.t) (hlog : m.log.length < 1099511627776) (ha0 : 0 ≤ t.a) (ha1 : t.a ≤ 16777215) (hst : t.steps ≤ 1000) :
    Tri w 86 #[.pointer (some ⟨tb, 0, none⟩), .pointer (some ⟨p, 0, none⟩)] (tickP tb t * memP p m)
      fun e R => e = .returned (.tuple #[]) ∧ R = tickP tb (t.stut n m).1 * memP p (t.stut n m).2 := by
  have hf' := hf
  refine Tri.walk fun F S0 => ?_
  obtain ⟨⟨ct, cs, src, del⟩, who, steps, a, b, l0, h0, phase⟩ := t
  obtain ⟨hn, ht0, ht1, hs0, hs1, hlen⟩ := hf
  simp only at hn ht0 ht1 hs0 hs1 hlen hwho
  have hle := mul_le ct cs ht1 hs1
  rw [← hn] at hle
  have HN := Lib.hid hn
  have HS0 := Lib.hid S0
  have HLen := Lib.hid hlen
  have hu0 := (S0.cast (HP.star_comm _ _)).u64
  obtain ⟨hrc, hrf⟩ := blk_S (S0).blk; simp only [TickS.row] at hrc; have hbt := blk_lt (S0).blk
  clear S0 hn hlen
  simp only at ha0 ha1 hst hf'
  by_cases hs : steps < ct
  · have e1 : TickS.stut n ⟨⟨ct, cs, src, del⟩, who, steps, a, b, l0, h0, phase⟩ m = (⟨⟨ct, cs, src, del⟩, who, steps, max a ((⟨⟨ct, cs, src, del⟩, who, steps, a, b, l0, h0, phase⟩ : TickS).ld n m steps), b, l0, h0, phase⟩, m.ld who ((⟨⟨ct, cs, src, del⟩, who, steps, a, b, l0, h0, phase⟩ : TickS).num n steps)) := by
      unfold TickS.stut; rw [if_pos hs]
    rw [e1]
    have HLd := Lib.hid (fun w' => tick_load w' tb p n ⟨⟨ct, cs, src, del⟩, who, steps, a, b, l0, h0, phase⟩ m steps hs hf' hwho hlog)
    simp only at HLd
    generalize (⟨⟨ct, cs, src, del⟩, who, steps, a, b, l0, h0, phase⟩ : TickS).ld n m steps = L at HLd ⊢
    generalize m.ld who ((⟨⟨ct, cs, src, del⟩, who, steps, a, b, l0, h0, phase⟩ : TickS).num n steps) = m' at HLd ⊢
    have hsI : (steps : Int) < (ct : Int) := by omega
    have ca : (3 : Nat) ≠ 2 := by decide
    go_enter Try.func86, Try.ntmps86
    go_wp2_with fail
    go_region
    have HS1 := Lib.hid HS0.out.drew
    go_wp2_with fail
    go_region_with (go_at_call 91; refine (HS1.out.drew.call1 (HLd.out _)).mono ?_; rintro e w2 ⟨_, ⟨rfl, rfl⟩, S2⟩; have hx := blk_S S2.blk; simp only [TickS.row] at hx; obtain ⟨hx1, hx2⟩ := hx)
    all_goals
      have HS2 := Lib.hid S2
      clear S2 hx1 hx2
      go_wp2
      refine bodyPost_ret (results_none rfl _ _ _) rfl ⟨_, ⟨rfl, rfl⟩, ?_⟩
      refine (HS2.out.set 6 (.int .i64 (max a L))).cast ?_
      simp [tickP, TickS.row]
  · have hsI : ¬ (steps : Int) < (ct : Int) := by omega
    have hdI : decide ((steps : Int) < (ct : Int)) = false := by simpa using hs
    have haw : IntKind.i64.wrap (a + 1) = a + 1 := w64 (by omega) (by omega)
    by_cases hok : stOk (a + 1) (a + 1)
    · have e1 : TickS.stut n ⟨⟨ct, cs, src, del⟩, who, steps, a, b, l0, h0, phase⟩ m = (⟨⟨ct, cs, src, del⟩, who, steps, a, b, a + 1, a + 1, 1⟩, m.put who 1 (2 * n + ct + who) (a + 1) true) := by
        unfold TickS.stut; rw [if_neg hs]; simp only [TickS.fin, if_pos hok, TickS.num]
      have e2 : TickS.fin ⟨⟨ct, cs, src, del⟩, who, steps, a, b, l0, h0, phase⟩ (a + 1) (a + 1) = ⟨⟨ct, cs, src, del⟩, who, steps, a, b, a + 1, a + 1, 1⟩ := by simp only [TickS.fin, if_pos hok]
      have hau : IntKind.u64.wrap (a + 1) = a + 1 := IntWalk.u64_in _ (by omega)
      rw [e1]
      have HDn := Lib.hid (fun w' => tick_done w' tb ⟨⟨ct, cs, src, del⟩, who, steps, a, b, l0, h0, phase⟩ (a + 1) (a + 1))
      rw [e2] at HDn
      have HSt := Lib.hid (fun w' => store_tri w' p m who (a + 1) (2 * n + ct + who) (by have := HLen.out; omega) hlog ⟨by omega, by omega⟩)
      go_enter Try.func86, Try.ntmps86
      go_wp2_with fail
      go_region
      have HS1 := Lib.hid HS0.out.drew
      go_wp2_with (first | (go_at_call 83; refine (tick_point _ (a + 1)).mono ?_; rintro e w1 ⟨rfl, q1⟩; have HS2 := Lib.hid (HS1.out.ext q1); clear hrc hrf q1) | (go_at_call 82; refine ((HS2.out.alloc _).call (HDn.out _)).mono ?_; rintro e w3 ⟨_, ⟨rfl, rfl⟩, S3⟩; have HS3 := Lib.hid S3; obtain ⟨hrc, hrf⟩ := blk_S (S3).blk; simp only [TickS.row] at hrc; have hbt := blk_lt (S3).blk; clear S3))
      go_region_held3 (fun w' => (∀ o, w'.cell? ⟨tb, o, none⟩ = (#[.int .i64 ct, .int .i64 cs, .int .i64 src, .int .i64 del, .int .i64 who, .int .i64 steps, .int .i64 a, .int .i64 b, .int .i64 (a + 1), .int .i64 (a + 1), .int .i64 1] : Array Value)[o]?))
        (first | exact fun o => blk_cell S5.blk o | exact fun o => blk_cell S4.blk o | exact fun o => blk_cell (blk_drew HS3.out.blk) o)
        (first | (go_at_call 85; refine (lay_number _ ct cs src del ht1 hs1 who (by omega) n HN.out).mono ?_; rintro e w4 ⟨rfl, q4⟩; have S4 := HS3.out.drew.ext q4) | (go_at_call 31; refine ((S4.cast (HP.star_comm _ _)).call (HSt.out _)).mono ?_; rintro e w5 ⟨_, ⟨rfl, rfl⟩, S5'⟩; have S5 := S5'.cast (HP.star_comm _ _)))
      have HS5 := Lib.hid S5
      clear S5 S5' S4 q4
      go_wp2
      go_end0
      exact ⟨_, ⟨rfl, rfl⟩, HS5.out⟩
    · have e1 : TickS.stut n ⟨⟨ct, cs, src, del⟩, who, steps, a, b, l0, h0, phase⟩ m = (⟨⟨ct, cs, src, del⟩, who, steps, a, b, l0, h0, 2⟩, m) := by
        unfold TickS.stut; rw [if_neg hs]; simp only [TickS.fin, if_neg hok]
      have e2 : TickS.fin ⟨⟨ct, cs, src, del⟩, who, steps, a, b, l0, h0, phase⟩ (a + 1) (a + 1) = ⟨⟨ct, cs, src, del⟩, who, steps, a, b, l0, h0, 2⟩ := by simp only [TickS.fin, if_neg hok]
      rw [e1]
      have HDn := Lib.hid (fun w' => tick_done w' tb ⟨⟨ct, cs, src, del⟩, who, steps, a, b, l0, h0, phase⟩ (a + 1) (a + 1))
      rw [e2] at HDn
      go_enter Try.func86, Try.ntmps86
      go_wp2_with fail
      go_region
      have HS1 := Lib.hid HS0.out.drew
      go_wp2_with (first | (go_at_call 83; refine (tick_point _ (a + 1)).mono ?_; rintro e w1 ⟨rfl, q1⟩; have HS2 := Lib.hid (HS1.out.ext q1); clear hrc hrf q1) | (go_at_call 82; refine ((HS2.out.alloc _).call (HDn.out _)).mono ?_; rintro e w3 ⟨_, ⟨rfl, rfl⟩, S3⟩; have HS3 := Lib.hid S3; obtain ⟨hrc, hrf⟩ := blk_S (S3).blk; simp only [TickS.row] at hrc; have hbt := blk_lt (S3).blk; clear S3))
      go_end0
      exact ⟨_, ⟨rfl, rfl⟩, HS3.out⟩

end Go.Proofs.Ytkcimjcmlibgpaa
