/-
  Package task: what a call tells; a new one; which there may be. No condition but the layout's.
-/
import Derived.Test.YtkcimjcmlibgpaaTask
namespace Go.Proofs.Ytkcimjcmlibgpaa
open Go.RowKit

theorem Try.putPhase (b : Nat) (w : World) : (method 118 94 (.pointer (some ⟨b, 0, none⟩)) "Phase").run Try.prog w = .ok (136, .pointer (some ⟨b, 0, none⟩)) w := by kernel_rfl
theorem Try.getPhase (b : Nat) (w : World) : (method 118 35 (.pointer (some ⟨b, 0, none⟩)) "Phase").run Try.prog w = .ok (22, .pointer (some ⟨b, 0, none⟩)) w := by kernel_rfl

theorem St.on {W0 w : World} {P R : HP} (h : St W0 w (P * R)) : ∃ A, P.on w A := by
  obtain ⟨F, ⟨A, B, h1, _⟩, _⟩ := h; exact ⟨A, h1⟩

theorem task_over (w : World) (kb : Nat) (T : TaskS) (A : Nat → Prop) (h : (taskP kb T).on w A) :
    Calls Try.prog 52 #[.pointer (some ⟨kb, 0, none⟩)] w fun e w' => e = .returned (.bool T.over) ∧ w = w' := by
  obtain ⟨b, _, _, ⟨hb, _⟩, hw, _⟩ := h
  obtain ⟨hrc, hrf⟩ := blk_S hb
  obtain ⟨kind, en, value, start, work⟩ := T
  unfold TaskS.over WorkS.phase
  have hm1 := Try.putPhase
  have hm2 := Try.getPhase
  cases work with
  | put P =>
    obtain ⟨⟨cb, tb⟩, _, _, ⟨hp, _⟩, _⟩ := hw
    have HP := Lib.hid (put_phase w b P cb tb hp)
    simp only [TaskS.row, workV, putV] at hrc ⊢
    generalize P.phase = ph at *
    clear hb hp
    go_enter Try.func52, Try.ntmps52
    go_wp2_with (go_at_call 136; refine HP.out.mono ?_; rintro e _ ⟨rfl, rfl⟩)
    go_ret
    exact ⟨rfl, rfl⟩
  | get g =>
    obtain ⟨G, hg, _⟩ := hw
    have HP := Lib.hid (get_phase w b G g hg)
    simp only [TaskS.row, workV, getV] at hrc ⊢
    generalize g.phase = ph at *
    clear hb hg
    go_enter Try.func52, Try.ntmps52
    go_wp2_with (go_at_call 22; refine HP.out.mono ?_; rintro e _ ⟨rfl, rfl⟩)
    go_ret
    exact ⟨rfl, rfl⟩

theorem task_call (w : World) (kb : Nat) (T : TaskS) (A : Nat → Prop) (h : (taskP kb T).on w A) :
    Calls Try.prog 55 #[.pointer (some ⟨kb, 0, none⟩)] w fun e w' => e = .returned (.agg #[.int .i64 T.kind, .int .i64 T.en, .int .u64 T.value, .int .i64 T.start]) ∧ Frm [] w w' := by
  obtain ⟨b, _, _, ⟨hb, _⟩, hw, _⟩ := h
  have hbt := blk_lt hb
  obtain ⟨hrc, hrf⟩ := blk_S hb
  obtain ⟨kind, en, value, start, work⟩ := T
  simp only [TaskS.row] at hrc ⊢
  clear hb
  go_enter Try.func55, Try.ntmps55
  go_wp2
  refine bodyPost_ret (v := .agg #[.int .i64 kind, .int .i64 en, .int .u64 value, .int .i64 start]) (by simp [results, Try.results55, go_sem]) rfl ⟨rfl, Frm.alloc _ _ _⟩

/-- What came of a call: was it done, what was had, when it came. -/
structure ReplyS where
  ok : Bool
  value : Int
  lo : Int
  hi : Int
  deriving DecidableEq
def ReplyS.agg (r : ReplyS) : Value := .agg #[.bool r.ok, .int .u64 r.value, .int .i64 r.lo, .int .i64 r.hi]
def WorkS.reply : WorkS → ReplyS
  | .put P => if P.phase = 1 then ⟨true, 0, P.tick.lo, P.tick.hi⟩ else ⟨false, 0, 0, 0⟩
  | .get g => if g.phase = 1 then ⟨true, g.value, 0, 0⟩ else ⟨false, 0, 0, 0⟩
def TaskS.reply (T : TaskS) : ReplyS := T.work.reply

/-- The call makes nothing but new memory: a block that it made itself may be turned. -/
theorem Frm.own {w w1 : World} (q : Frm [] w w1) {b o : Nat} (hb : w.heap.size ≤ b) (v : Value) : Frm [] w (w1.setCell ⟨b, o, none⟩ v) :=
  q.trans (Frm.setCell (F := [b]) w1 (a := ⟨b, o, none⟩) v (by simp)) (fun _ _ h => h) (fun x hx _ hm => by simp at hm; omega)

set_option maxHeartbeats 1000000 in
theorem task_reply (w : World) (kb : Nat) (T : TaskS) (A : Nat → Prop) (h : (taskP kb T).on w A) :
    Calls Try.prog 50 #[.pointer (some ⟨kb, 0, none⟩)] w fun e w' => e = .returned T.reply.agg ∧ Frm [] w w' := by
  obtain ⟨b, _, _, ⟨hb, _⟩, hw, _⟩ := h
  have hbt := blk_lt hb
  obtain ⟨hrc, hrf⟩ := blk_S hb
  obtain ⟨kind, en, value, start, work⟩ := T
  unfold TaskS.reply WorkS.reply
  have hm1 := Try.putPhase
  have hm2 := Try.getPhase
  have ha1 := Try.asPP
  have ha2 := Try.asGP
  have ha3 := Try.asGG
  cases work with
  | put P =>
    obtain ⟨⟨cb, tb⟩, _, _, ⟨hp, _⟩, ⟨_, _, _, ⟨ht, _⟩, _⟩, _⟩ := hw
    have HP := Lib.hid (fun w' (q : Frm [] w w') => put_phase w' b P cb tb (blk_frm hp q (by simp)))
    have HS := Lib.hid (fun w' (q : Frm [] w w') => put_stamp w' b P cb tb (blk_frm hp q (by simp)) (blk_frm ht q (by simp)))
    simp only [TaskS.row, workV, putV] at hrc ⊢
    by_cases hph : P.phase = 1
    · have hst : P.st = (P.tick.lo, P.tick.hi) := if_pos hph
      rw [hst] at HS
      rw [hph] at HP
      rw [if_pos hph]
      clear hb hp ht hph hst
      go_enter Try.func50, Try.ntmps50
      go_wp2_with (first | (go_at_call 136; refine (HP.out _ (Frm.alloc _ _ _)).mono ?_; rintro e _ ⟨rfl, rfl⟩) | (go_at_call 57; refine (HS.out _ (Frm.alloc _ _ _)).mono ?_; rintro e w1 ⟨rfl, q1⟩; have HQ := Lib.hid ((Frm.alloc [] w (.cells #[.bool false, .int .u64 0, .int .i64 0, .int .i64 0] 89)).tr q1); have hB := Lib.hid (blk_frm (blk_new w #[.bool false, .int .u64 0, .int .i64 0, .int .i64 0] 89) q1 (by simp)); obtain ⟨hxc, hxf⟩ := blk_S hB.out; clear q1))
      have hB2 := Lib.hid (blk_set (blk_set (blk_set (blk_set hB.out 0 (.bool true)) 1 (.int .u64 0)) 2 (.int .i64 P.tick.lo)) 3 (.int .i64 P.tick.hi))
      have hfr := Frm.own (o := 3) (Frm.own (o := 2) (Frm.own (o := 1) (Frm.own (o := 0) HQ.out (Nat.le_refl _) (.bool true)) (Nat.le_refl _) (.int .u64 0)) (Nat.le_refl _) (.int .i64 P.tick.lo)) (Nat.le_refl _) (.int .i64 P.tick.hi)
      obtain ⟨hyc, _⟩ := blk_S hB2.out
      have hy0 := hyc 0
      have hy1 := hyc 1
      have hy2 := hyc 2
      have hy3 := hyc 3
      refine bodyPost_ret (v := .agg #[.bool true, .int .u64 0, .int .i64 P.tick.lo, .int .i64 P.tick.hi]) (by simp [results, Try.results50, go_sem, hy0, hy1, hy2, hy3]) rfl ⟨rfl, hfr⟩
    · rw [if_neg hph]
      have hpb : (P.phase != 1) = true := by simpa using hph
      generalize P.phase = ph at *
      clear hb hp ht hph
      go_enter Try.func50, Try.ntmps50
      go_wp2_with (first | (go_at_call 136; refine (HP.out _ (Frm.alloc _ _ _)).mono ?_; rintro e _ ⟨rfl, rfl⟩))
      refine bodyPost_ret (v := .agg #[.bool false, .int .u64 0, .int .i64 0, .int .i64 0]) (by simp [results, Try.results50, go_sem]) rfl ⟨rfl, Frm.alloc _ _ _⟩
  | get g =>
    obtain ⟨G, hg, _⟩ := hw
    have HP := Lib.hid (fun w' (q : Frm [] w w') => get_phase w' b G g (hg.frm q (by simp)))
    have HV := Lib.hid (fun w' (q : Frm [] w w') => get_value w' b G g (hg.frm q (by simp)))
    simp only [TaskS.row, workV, getV] at hrc ⊢
    generalize g.value = gv at *
    by_cases hph : g.phase = 1
    · rw [hph] at HP
      rw [if_pos hph]
      clear hb hg hph
      go_enter Try.func50, Try.ntmps50
      go_wp2_with (first | (go_at_call 22; refine (HP.out _ (Frm.alloc _ _ _)).mono ?_; rintro e _ ⟨rfl, rfl⟩) | (go_at_call 23; refine (HV.out _ (Frm.alloc _ _ _)).mono ?_; rintro e _ ⟨rfl, rfl⟩))
      refine bodyPost_ret (v := .agg #[.bool true, .int .u64 gv, .int .i64 0, .int .i64 0]) (by simp [results, Try.results50, go_sem]) rfl ⟨rfl, Frm.alloc _ _ _⟩
    · rw [if_neg hph]
      have hpb : (g.phase != 1) = true := by simpa using hph
      generalize g.phase = ph at *
      clear hb hg hph
      go_enter Try.func50, Try.ntmps50
      go_wp2_with (first | (go_at_call 22; refine (HP.out _ (Frm.alloc _ _ _)).mono ?_; rintro e _ ⟨rfl, rfl⟩))
      refine bodyPost_ret (v := .agg #[.bool false, .int .u64 0, .int .i64 0, .int .i64 0]) (by simp [results, Try.results50, go_sem]) rfl ⟨rfl, Frm.alloc _ _ _⟩

def task0 (cf : Cf) (who n : Nat) (kind en value start : Int) : TaskS := ⟨kind, en, value, start, if kind = 0 then .put (put0 cf who en value) else .get (get0 cf who n en start)⟩

/-- A task's block and what does its work, put together. -/
theorem task_on {w w1 W2 : World} {kb : Nat} {A : Nat → Prop} {c : Array Value} {v : Value} {P : HP} (hB : Blk w1 kb c 120) (hP : P.on w1 A) (hA : ∀ x, A x → W2.heap.size ≤ x) (hk : kb < W2.heap.size) (hw : w.heap.size ≤ kb) :
    (blkP kb (c.setIfInBounds 4 v) 120 * P).on (w1.setCell ⟨kb, 4, none⟩ v) (fun x => x = kb ∨ A x) ∧ ∀ x, (x = kb ∨ A x) → w.heap.size ≤ x := by
  have hf := Frm.setCell (F := [kb]) w1 (a := ⟨kb, 4, none⟩) v (by simp)
  refine ⟨⟨fun x => x = kb, A, ⟨blk_set hB 4 v, rfl⟩, P.keep w1 _ A hP (fun k hk' => hf.block k (P.lt w1 A hP k hk') (by simp; rintro rfl; have := hA _ hk'; omega)), ?_, rfl⟩, ?_⟩
  · rintro x rfl h; have := hA _ h; omega
  · rintro x (rfl | h)
    · exact hw
    · have := hA x h; omega

theorem task_new_put (w : World) (ct cs who n : Nat) (src del en value start : Int) :
    Calls Try.prog 47 #[.agg #[.int .i64 ct, .int .i64 cs, .int .i64 src, .int .i64 del], .int .i64 who, .agg #[.int .i64 0, .int .i64 en, .int .u64 value, .int .i64 start]] w fun e w' =>
      ∃ kb A, e = .returned (.pointer (some ⟨kb, 0, none⟩)) ∧ (taskP kb (task0 ⟨ct, cs, src, del⟩ who n 0 en value start)).on w' A ∧ (∀ x, A x → w.heap.size ≤ x) ∧ Frm [] w w' := by
  have HN := Lib.hid (fun w' => put_new w' ct cs who src del en value)
  have HB0 : Hid (Blk (((w.alloc (.cells #[.int .i64 ct, .int .i64 cs, .int .i64 src, .int .i64 del] 27)).alloc (.cells #[.int .i64 0, .int .i64 en, .int .u64 value, .int .i64 start] 85)).alloc (.cells #[.int .i64 0, .int .i64 en, .int .u64 value, .int .i64 start, .nilIface] 120)) (w.heap.size + 1 + 1) #[.int .i64 0, .int .i64 en, .int .u64 value, .int .i64 start, .nilIface] 120) := by
    have h := blk_new ((w.alloc (.cells #[.int .i64 ct, .int .i64 cs, .int .i64 src, .int .i64 del] 27)).alloc (.cells #[.int .i64 0, .int .i64 en, .int .u64 value, .int .i64 start] 85)) #[.int .i64 0, .int .i64 en, .int .u64 value, .int .i64 start, .nilIface] 120
    rw [size_al, size_al] at h
    exact h
  have HQ0 := Lib.hid ((((Frm.alloc [] w (.cells #[.int .i64 ct, .int .i64 cs, .int .i64 src, .int .i64 del] 27)).tr (Frm.alloc _ _ (.cells #[.int .i64 0, .int .i64 en, .int .u64 value, .int .i64 start] 85))).tr (Frm.alloc _ _ (.cells #[.int .i64 0, .int .i64 en, .int .u64 value, .int .i64 start, .nilIface] 120))))
  go_enter Try.func47, Try.ntmps47
  go_wp2_with fail
  refine (HN.out _).mono ?_
  rintro e w1 ⟨pb, A, rfl, hP, hA, q1⟩
  have hB := Lib.hid (blk_frm HB0.out q1 (by simp))
  obtain ⟨hxc, hxf⟩ := blk_S hB.out
  have HT := Lib.hid (task_on (w := w) (v := putV pb) hB.out hP hA (blk_lt HB0.out) (by omega))
  have HQ := Lib.hid (HQ0.out.tr q1)
  clear hP hA q1
  go_wp2
  go_ret
  refine ⟨w.heap.size + 1 + 1, _, rfl, ⟨pb, ?_⟩, HT.out.2, Frm.own HQ.out (by omega) _⟩
  have h := HT.out.1
  simpa [task0, TaskS.row, workV, workP, putV, getV] using h

theorem task_new_get (w : World) (ct cs who n : Nat) (src del en value start : Int) (ht : ct ≤ 64) (hs : cs ≤ 64) (hn : n = ct * cs) (hn0 : 1 ≤ n) :
    Calls Try.prog 47 #[.agg #[.int .i64 ct, .int .i64 cs, .int .i64 src, .int .i64 del], .int .i64 who, .agg #[.int .i64 1, .int .i64 en, .int .u64 value, .int .i64 start]] w fun e w' =>
      ∃ kb A, e = .returned (.pointer (some ⟨kb, 0, none⟩)) ∧ (taskP kb (task0 ⟨ct, cs, src, del⟩ who n 1 en value start)).on w' A ∧ (∀ x, A x → w.heap.size ≤ x) ∧ Frm [] w w' := by
  have HN := Lib.hid (fun w' => get_new w' ct cs who n src del en start ht hs hn hn0)
  clear hn
  have HB0 : Hid (Blk (((w.alloc (.cells #[.int .i64 ct, .int .i64 cs, .int .i64 src, .int .i64 del] 27)).alloc (.cells #[.int .i64 1, .int .i64 en, .int .u64 value, .int .i64 start] 85)).alloc (.cells #[.int .i64 1, .int .i64 en, .int .u64 value, .int .i64 start, .nilIface] 120)) (w.heap.size + 1 + 1) #[.int .i64 1, .int .i64 en, .int .u64 value, .int .i64 start, .nilIface] 120) := by
    have h := blk_new ((w.alloc (.cells #[.int .i64 ct, .int .i64 cs, .int .i64 src, .int .i64 del] 27)).alloc (.cells #[.int .i64 1, .int .i64 en, .int .u64 value, .int .i64 start] 85)) #[.int .i64 1, .int .i64 en, .int .u64 value, .int .i64 start, .nilIface] 120
    rw [size_al, size_al] at h
    exact h
  have HQ0 := Lib.hid ((((Frm.alloc [] w (.cells #[.int .i64 ct, .int .i64 cs, .int .i64 src, .int .i64 del] 27)).tr (Frm.alloc _ _ (.cells #[.int .i64 1, .int .i64 en, .int .u64 value, .int .i64 start] 85))).tr (Frm.alloc _ _ (.cells #[.int .i64 1, .int .i64 en, .int .u64 value, .int .i64 start, .nilIface] 120))))
  go_enter Try.func47, Try.ntmps47
  go_wp2_with (go_at_call 18; refine (HN.out _).mono ?_; rintro e w1 ⟨gb, G, rfl, hG, q1, hA⟩; have hB := Lib.hid (blk_frm HB0.out q1 (by simp)); obtain ⟨hxc, hxf⟩ := blk_S hB.out; have HT := Lib.hid (task_on (w := w) (v := getV gb) (P := getP gb _) (A := fun x => x ∈ G) hB.out ⟨G, hG, rfl⟩ hA (blk_lt HB0.out) (by omega)); have HQ := Lib.hid (HQ0.out.tr q1); clear hG hA q1)
  go_ret
  refine ⟨w.heap.size + 1 + 1, _, rfl, ⟨gb, ?_⟩, HT.out.2, Frm.own HQ.out (by omega) _⟩
  have h := HT.out.1
  simpa [task0, TaskS.row, workV, workP, putV, getV] using h

/-- May there be such a call? -/
theorem call_right (w : World) (kind en value start : Int) :
    Calls Try.prog 53 #[.agg #[.int .i64 kind, .int .i64 en, .int .u64 value, .int .i64 start]] w fun e w' => e = .returned (.bool (decide ((kind = 0 ∨ kind = 1) ∧ (en = 0 ∨ en = 1)))) ∧ Frm [] w w' := by
  by_cases h0 : kind = 0
  · subst h0
    by_cases h2 : en = 0
    · subst h2
      go_enter Try.func53, Try.ntmps53
      go_wp2
      go_ret
      exact ⟨rfl, Frm.alloc _ _ _⟩
    · have h2b : (en == 0) = false := by simpa using h2
      by_cases h3 : en = 1
      · subst h3
        go_enter Try.func53, Try.ntmps53
        go_wp2
        go_ret
        exact ⟨rfl, Frm.alloc _ _ _⟩
      · have h3b : (en == 1) = false := by simpa using h3
        have e : decide (((0 : Int) = 0 ∨ (0 : Int) = 1) ∧ (en = 0 ∨ en = 1)) = false := by simp [h2, h3]
        rw [e]
        go_enter Try.func53, Try.ntmps53
        go_wp2
        go_ret
        exact ⟨rfl, Frm.alloc _ _ _⟩
  · have h0b : (kind == 0) = false := by simpa using h0
    by_cases h1 : kind = 1
    · subst h1
      by_cases h2 : en = 0
      · subst h2
        go_enter Try.func53, Try.ntmps53
        go_wp2
        go_ret
        exact ⟨rfl, Frm.alloc _ _ _⟩
      · have h2b : (en == 0) = false := by simpa using h2
        by_cases h3 : en = 1
        · subst h3
          go_enter Try.func53, Try.ntmps53
          go_wp2
          go_ret
          exact ⟨rfl, Frm.alloc _ _ _⟩
        · have h3b : (en == 1) = false := by simpa using h3
          have e : decide (((1 : Int) = 0 ∨ (1 : Int) = 1) ∧ (en = 0 ∨ en = 1)) = false := by simp [h2, h3]
          rw [e]
          go_enter Try.func53, Try.ntmps53
          go_wp2
          go_ret
          exact ⟨rfl, Frm.alloc _ _ _⟩
    · have h1b : (kind == 1) = false := by simpa using h1
      have e : decide ((kind = 0 ∨ kind = 1) ∧ (en = 0 ∨ en = 1)) = false := by simp [h0, h1]
      rw [e]
      go_enter Try.func53, Try.ntmps53
      go_wp2
      go_ret
      exact ⟨rfl, Frm.alloc _ _ _⟩

end Go.Proofs.Ytkcimjcmlibgpaa
