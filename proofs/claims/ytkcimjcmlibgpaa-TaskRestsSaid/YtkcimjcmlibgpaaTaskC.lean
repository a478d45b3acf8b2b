/-
  Package task: a call goes on in plain numbers; its contracts over things side by side; stackyardlaw12.head and Make. Each condition stands in its theorem.
-/
import Derived.Test.YtkcimjcmlibgpaaTaskB
import Derived.Test.YtkcimjcmlibgpaaRunD
namespace Go.Proofs.Ytkcimjcmlibgpaa
open Go.RowKit

theorem work_go {cf : Cf} {n : Nat} {m : MemS} {W : WorkS} {now : Int} (ho : W.Ok cf n m) (hu : ∀ k, U64 (m.at k)) (h0 : 0 ≤ now) :
    (W.step n now m).1.Ok cf n (W.step n now m).2 ∧ (∀ k, U64 ((W.step n now m).2.at k)) ∧ (W.step n now m).2.cells.length = m.cells.length ∧ (W.step n now m).2.log.length ≤ m.log.length + 1 := by
  cases W with
  | put P =>
    obtain ⟨h1, h2⟩ := ho
    obtain ⟨a, b, _⟩ := put_ok (n := n) (m := m) h1 hu h0
    obtain ⟨c, d, e⟩ := put_mem (n := n) (m := m) (now := now) h1 hu
    exact ⟨⟨a, b.trans h2⟩, e, c, d⟩
  | get g =>
    obtain ⟨h1, h2⟩ := ho
    refine ⟨⟨get_step_ok n g m h1 hu, (step_cf n g m).trans h2⟩, step_u64 n g m h1 hu, ?_, step_log_le n g m⟩
    by_cases hp : g.phase = 0
    · exact (get_step_mem n g m hp h1).1
    · show (g.step n m).2.cells.length = _
      unfold GetS.step; rw [if_pos hp]

/-- A call, step by step, at the times t0, t0 + 1, .. -/
def runK (n : Nat) (t0 : Int) (T : TaskS) (m : MemS) : Nat → TaskS × MemS
  | 0 => (T, m)
  | k + 1 => TaskS.step n (t0 + k) (runK n t0 T m k).1 (runK n t0 T m k).2
theorem runK_succ (n : Nat) (t0 : Int) (T : TaskS) (m : MemS) (k : Nat) : runK n t0 T m (k + 1) = TaskS.step n (t0 + k) (runK n t0 T m k).1 (runK n t0 T m k).2 := rfl

structure GoesOn (cf : Cf) (n : Nat) (m0 : MemS) (k : Nat) (T : TaskS) (m : MemS) : Prop where
  ok : T.work.Ok cf n m
  u : ∀ j, U64 (m.at j)
  len : m.cells.length = m0.cells.length
  log : m.log.length ≤ m0.log.length + k
theorem runK_ok {cf : Cf} {n : Nat} {t0 : Int} {T : TaskS} {m : MemS} (ho : T.work.Ok cf n m) (hu : ∀ k, U64 (m.at k)) (h0 : 0 ≤ t0) (k : Nat) : GoesOn cf n m k (runK n t0 T m k).1 (runK n t0 T m k).2 := by
  induction k with
  | zero => exact ⟨ho, hu, rfl, Nat.le_refl _⟩
  | succ k ih =>
    rw [runK_succ]
    obtain ⟨a, b, c, d⟩ := work_go (now := t0 + k) ih.ok ih.u (by omega)
    exact ⟨a, b, c.trans ih.len, by have := ih.log; show _ ≤ _; unfold TaskS.step; simp only; omega⟩

theorem taskStep_st {W0 w : World} {kb p n : Nat} {cf : Cf} {T : TaskS} {m : MemS} {R : HP} (h : St W0 w (taskP kb T * memP p m * R)) (now : Int) (hf : Fits cf n m) (ho : T.work.Ok cf n m) (hlog : m.log.length < 1099511627775) :
    Calls Try.prog 49 #[.pointer (some ⟨kb, 0, none⟩), .pointer (some ⟨p, 0, none⟩), .int .i64 now] w fun e w' => e = .returned (.bool (T.step n now m).1.over) ∧ St W0 w' (taskP kb (T.step n now m).1 * memP p (T.step n now m).2 * R) := by
  refine (h.call (task_step w kb p n cf T m now hf ho hlog)).mono ?_
  rintro e w' ⟨P', ⟨he, rfl⟩, hs⟩
  exact ⟨he, hs⟩
theorem taskOver_st {W0 w : World} {kb : Nat} {T : TaskS} {R : HP} (h : St W0 w (taskP kb T * R)) :
    Calls Try.prog 52 #[.pointer (some ⟨kb, 0, none⟩)] w fun e w' => e = .returned (.bool T.over) ∧ w = w' := by
  obtain ⟨A, hA⟩ := h.on
  exact task_over w kb T A hA
theorem taskReply_st {W0 w : World} {kb : Nat} {T : TaskS} {R : HP} (h : St W0 w (taskP kb T * R)) :
    Calls Try.prog 50 #[.pointer (some ⟨kb, 0, none⟩)] w fun e w' => e = .returned T.reply.agg ∧ Frm [] w w' := by
  obtain ⟨A, hA⟩ := h.on
  exact task_reply w kb T A hA
theorem memNew_st {W0 w : World} {R : HP} (h : St W0 w R) (n : Nat) (hn : n ≤ 65536) (hp : 0 < n) :
    Calls Try.prog 45 #[.int .i64 n] w fun e w' => ∃ p, e = .returned (.pointer (some ⟨p, 0, none⟩)) ∧ St W0 w' (memP p ⟨List.replicate n 0, []⟩ * R) := by
  refine (mem_new w n hn hp).mono ?_
  rintro e w' ⟨p, F, he, hm, hF, q⟩
  exact ⟨p, he, h.make q ⟨F, hm, rfl⟩ hF⟩
theorem taskPut_st {W0 w : World} {R : HP} (h : St W0 w R) (ct cs who n : Nat) (src del en value start : Int) :
    Calls Try.prog 47 #[.agg #[.int .i64 ct, .int .i64 cs, .int .i64 src, .int .i64 del], .int .i64 who, .agg #[.int .i64 0, .int .i64 en, .int .u64 value, .int .i64 start]] w fun e w' =>
      ∃ kb, e = .returned (.pointer (some ⟨kb, 0, none⟩)) ∧ St W0 w' (taskP kb (task0 ⟨ct, cs, src, del⟩ who n 0 en value start) * R) := by
  refine (task_new_put w ct cs who n src del en value start).mono ?_
  rintro e w' ⟨kb, A, he, hP, hA, q⟩
  exact ⟨kb, he, h.make q hP hA⟩
theorem taskGet_st {W0 w : World} {R : HP} (h : St W0 w R) (ct cs who n : Nat) (src del en value start : Int) (ht : ct ≤ 64) (hs : cs ≤ 64) (hn : n = ct * cs) (hn0 : 1 ≤ n) :
    Calls Try.prog 47 #[.agg #[.int .i64 ct, .int .i64 cs, .int .i64 src, .int .i64 del], .int .i64 who, .agg #[.int .i64 1, .int .i64 en, .int .u64 value, .int .i64 start]] w fun e w' =>
      ∃ kb, e = .returned (.pointer (some ⟨kb, 0, none⟩)) ∧ St W0 w' (taskP kb (task0 ⟨ct, cs, src, del⟩ who n 1 en value start) * R) := by
  refine (task_new_get w ct cs who n src del en value start ht hs hn hn0).mono ?_
  rintro e w' ⟨kb, A, he, hP, hA, q⟩
  exact ⟨kb, he, h.make q hP hA⟩

def cfT : Cf := ⟨1, 1, 0, 0⟩
def headT : TaskS := task0 cfT 0 1 0 0 7 0
theorem headT_a : (∀ k, k < 4 → (runK 1 0 headT (mem0 1 1) k).1.over = false) ∧ (runK 1 0 headT (mem0 1 1) 4).1.over = true ∧ (runK 1 0 headT (mem0 1 1) 4).1.reply = ⟨true, 0, 0, 0⟩ ∧ (runK 1 0 headT (mem0 1 1) 4).2.at 1 = 7 := by decide +kernel

set_option maxRecDepth 100000 in
set_option maxHeartbeats 4000000 in
theorem law12_head (w : World) : Calls Try.prog 44 #[] w fun e w' => e = .returned (.bool true) ∧ Frm [] w w' := by
  have HB := Lib.hid (blk_new w #[.int .i64 1, .int .i64 1, .int .i64 0, .int .i64 0] 27)
  have hbt0 := blk_lt HB.out
  have HQ0 := Lib.hid (Frm.alloc [] w (.cells #[.int .i64 1, .int .i64 1, .int .i64 0, .int .i64 0] 27))
  have hf : Fits cfT 1 (mem0 1 1) := ⟨rfl, by decide, by decide, by decide, by decide, rfl⟩
  have hu0 : ∀ k, U64 ((mem0 1 1).at k) := fun k => by rw [mem0_at]; exact ⟨by decide, by decide⟩
  have HOk := Lib.hid (runK_ok (cf := cfT) (n := 1) (t0 := 0) (T := headT) (m := mem0 1 1) ⟨put0_ok (by decide) (by decide) (by decide) (by decide) (by decide) (by decide) (by decide) (by decide) (.inl rfl) ⟨by decide, by decide⟩, rfl⟩ hu0 (by decide))
  go_enter Try.func44, Try.ntmps44
  go_wp2_with fail
  generalize w.alloc (.cells #[.int .i64 1, .int .i64 1, .int .i64 0, .int .i64 0] 27) = W0 at HB HQ0 hbt0 ⊢
  generalize w.heap.size = cb at HB hbt0 ⊢
  go_wp2_with (first | (go_at_call 46; refine (lay_cells _ 1 1 0 0 (by omega) (by omega) 1 rfl).mono ?_; rintro e w1 ⟨rfl, q1⟩; have HQ1 := Lib.hid q1; clear q1) | (go_at_call 45; refine (memNew_st (St.emp HQ1.out) 4 (by omega) (by omega)).mono ?_; rintro e w2 ⟨p, rfl, S2⟩; have HS2 := Lib.hid S2; obtain ⟨hrc, hrf⟩ := blk_S (blk_frm HB.out (S2).frm (by simp)); have hbt := Nat.lt_of_lt_of_le hbt0 (S2).frm.size; clear S2) | (go_at_call 47; refine (taskPut_st HS2.out 1 1 0 1 0 0 0 7 0).mono ?_; rintro e w3 ⟨kb, rfl, S3⟩; have HS3 := Lib.hid S3; clear S3 hrc hrf hbt))
  have HS4 := Lib.hid (HS3.out.cast (show _ = taskP kb (runK 1 0 headT (mem0 1 1) 0).1 * memP p (runK 1 0 headT (mem0 1 1) 0).2 * HP.emp from (HP.star_assoc _ _ _).symm))
  clear HS2 HS3 HQ1 hu0
  go_loopw [4] (fun i wq => ∃ k : Nat, k ≤ 4 ∧ i = .int .i64 k ∧ St W0 wq (taskP kb (runK 1 0 headT (mem0 1 1) k).1 * memP p (runK 1 0 headT (mem0 1 1) k).2 * HP.emp)) (fun i _ => 4 - (intOf i).toNat)
  case atStart => exact ⟨0, Nat.zero_le _, rfl, HS4.out⟩
  case round =>
    obtain ⟨k, hk, rfl, hS⟩ := hrel
    have HSk := Lib.hid hS
    obtain ⟨hrc, hrf⟩ := blk_S (blk_frm HB.out (hS).frm (by simp)); have hbt := Nat.lt_of_lt_of_le hbt0 (hS).frm.size
    have HOv := Lib.hid (taskOver_st (hS.cast (HP.star_assoc _ _ _)))
    have hgo := HOk.out k
    have hlg := hgo.log
    clear hS
    by_cases hk4 : k < 4
    · rw [headT_a.1 k hk4] at HOv
      have hk9 : (k : Int) < 9 := by omega
      have hfk : Fits cfT 1 (runK 1 0 headT (mem0 1 1) k).2 := fits_of hf hgo.len
      have e : runK 1 0 headT (mem0 1 1) (k + 1) = TaskS.step 1 (k : Int) (runK 1 0 headT (mem0 1 1) k).1 (runK 1 0 headT (mem0 1 1) k).2 := by rw [runK_succ, Int.zero_add]
      have HSt := Lib.hid (taskStep_st HSk.out (k : Int) hfk hgo.ok (by have h0 : (mem0 1 1).log.length = 0 := rfl; omega))
      rw [← e] at HSt
      clear e hgo hlg hfk
      go_wp2_with (first | (go_at_call 52; refine HOv.out.mono ?_; rintro e _ ⟨rfl, rfl⟩) | (go_at_call 49; refine HSt.out.mono ?_; rintro e w5 ⟨rfl, S5⟩; have HS5 := Lib.hid S5; clear S5))
      go_roundw
      case rel => exact ⟨k + 1, by omega, by go_num, HS5.out⟩
      case measure => simp [intOf]; omega
    · obtain rfl : k = 4 := by omega
      obtain ⟨_, a2, a3, a4⟩ := headT_a
      rw [a2] at HOv
      have hcl : (runK 1 0 headT (mem0 1 1) 4).2.cells.length = 4 := hgo.len
      have HRp := Lib.hid (taskReply_st (HSk.out.cast (HP.star_assoc _ _ _)))
      have HPk := Lib.hid (fun w' (q : Frm [] wr w') => peek_st ((HSk.out.ext q).cast (show _ = memP p (runK 1 0 headT (mem0 1 1) 4).2 * (taskP kb (runK 1 0 headT (mem0 1 1) 4).1 * HP.emp) by ac_rfl)) 1 (by omega))
      rw [a3] at HRp
      rw [a4] at HPk
      simp only [ReplyS.agg] at HRp
      have HQk := Lib.hid ((HQ0.out.tr HSk.out.frm))
      clear a2 a3 a4 hgo hlg hk4 hk
      go_wp2_with (first | (go_at_call 52; refine HOv.out.mono ?_; rintro e _ ⟨rfl, rfl⟩) | (go_at_call 50; refine HRp.out.mono ?_; rintro e w6 ⟨rfl, q6⟩; have HQ6 := Lib.hid q6; clear hrc hrf; obtain ⟨hrc, hrf⟩ := blk_S (blk_frm HB.out ((HSk.out.ext q6)).frm (by simp)); have hbt := Nat.lt_of_lt_of_le hbt0 ((HSk.out.ext q6)).frm.size; clear q6) | (go_at_call 25; refine (lay_value _ 1 1 0 0 (by omega) (by omega) 0 (by omega) 1 rfl).mono ?_; rintro e w7 ⟨rfl, q7⟩; have HQ7 := Lib.hid (HQ6.out.tr q7); clear q7) | (go_at_call 24; refine (HPk.out _ HQ7.out).mono ?_; rintro e _ ⟨rfl, rfl⟩))
      go_ret
      exact ⟨rfl, HQk.out.tr HQ7.out⟩

/-- A call, made of what it is. -/
theorem law12_make (w : World) (take right : Bool) (value start : Int) :
    Calls Try.prog 48 #[.bool take, .bool right, .int .u64 value, .int .i64 start] w fun e w' => e = .returned (.agg #[.int .i64 (if take then 1 else 0), .int .i64 (if right then 1 else 0), .int .u64 value, .int .i64 start]) ∧ Frm [] w w' := by
  cases take <;> cases right
  all_goals
    go_enter Try.func48, Try.ntmps48
    go_wp2
  · refine bodyPost_ret (v := .agg #[.int .i64 0, .int .i64 0, .int .u64 value, .int .i64 start]) (by simp [results, Try.results48, go_sem]) rfl ⟨rfl, (Frm.alloc _ _ _).tr (Frm.alloc _ _ _)⟩
  · refine bodyPost_ret (v := .agg #[.int .i64 0, .int .i64 1, .int .u64 value, .int .i64 start]) (by simp [results, Try.results48, go_sem]) rfl ⟨rfl, (Frm.alloc _ _ _).tr (Frm.alloc _ _ _)⟩
  · refine bodyPost_ret (v := .agg #[.int .i64 1, .int .i64 0, .int .u64 value, .int .i64 start]) (by simp [results, Try.results48, go_sem]) rfl ⟨rfl, (Frm.alloc _ _ _).tr (Frm.alloc _ _ _)⟩
  · refine bodyPost_ret (v := .agg #[.int .i64 1, .int .i64 1, .int .u64 value, .int .i64 start]) (by simp [results, Try.results48, go_sem]) rfl ⟨rfl, (Frm.alloc _ _ _).tr (Frm.alloc _ _ _)⟩

end Go.Proofs.Ytkcimjcmlibgpaa
