/-
  Package put: the last step; a step as a function; a new one; what it tells. Conditions: the cells fit the layout; the thread is there; the log is short.
-/
import Derived.Test.YtkcimjcmlibgpaaPut
namespace Go.Proofs.Ytkcimjcmlibgpaa
open Go.RowKit

theorem next_ok {w : Wd} {en lo hi : Int} (hw : w.Ok) (hg : w.gen < 8191) (he : en = 0 ∨ en = 1) (hs : stOk lo hi) : (w.next en lo hi).Ok := by
  obtain ⟨a, b, c⟩ := hs
  have := hw.g0
  constructor <;> simp only [Wd.next] <;> omega

set_option maxHeartbeats 8000000 in
theorem put_ends (w : World) (pb p n : Nat) (P : PutS) (m : MemS) (now : Int) (hf : Fits P.cf n m) (ho : P.Ok n) (hlog : m.log.length < 1099511627776) (hp : P.phase = 0) (hc : P.claim.phase = 1) (ht : P.tick.phase = 1) (hst : P.stored = true) :
    Tri w 56 #[.pointer (some ⟨pb, 0, none⟩), .pointer (some ⟨p, 0, none⟩), .int .i64 now] (putP pb P * memP p m)
      fun e R => e = .returned (.int .i64 (P.step n now m).1.phase) ∧ R = putP pb (P.step n now m).1 * memP p (P.step n now m).2 := by
  have e0 : P.step n now m = ({ P with phase := 1 }, m.put P.who 1 P.claim.slot ((P.claim.word.next P.en P.tick.lo P.tick.hi).pack) true) := by
    unfold PutS.step; rw [if_neg (by omega), if_neg (by omega), if_neg (by omega), if_neg (by rw [hst]; simp)]
  rw [e0]
  clear e0
  refine Tri.walk fun F S0 => ?_
  obtain ⟨⟨cb, tb⟩, S1⟩ := Sx.exL S0
  have S2 := S1.cast (HP.star_assoc _ _ _)
  have hcf := ho.cc
  have hsl : P.claim.slot < n := slot_bound (by rw [hcf]; exact hf.hn) ho.co.who ho.co.k
  have hle := hf.le
  have hlen := hf.len
  have ht1 := hf.t1
  have hs1 := hf.s1
  obtain ⟨hw1, hw2, _⟩ := ho.co.wd (.inr hc)
  have hnx := next_ok hw1 hw2 ho.en (ho.ts ht)
  have HSl := Lib.hid (fun w' (h : Blk w' cb P.claim.row 132) => claim_slot w' cb P.claim h (by rw [hcf]; exact hs1) (by have := ho.co.who; rw [hcf] at this; omega) (by have := ho.co.k; rw [hcf] at this; omega))
  have HSt := Lib.hid (fun w' => store_tri w' p m P.who ((P.claim.word.next P.en P.tick.lo P.tick.hi).pack) P.claim.slot (by omega) hlog (pack_u64 _ hnx))
  have HWd := Lib.hid (fun w' h => claim_word w' cb P.claim h)
  have HSp := Lib.hid (fun w' h => tick_stamp w' tb P.tick h)
  have HNx := Lib.hid (fun w' => word_next w' P.claim.word.st P.claim.word.en P.claim.word.gen P.claim.word.lo P.claim.word.hi P.en P.tick.lo P.tick.hi hw1.g0 (by omega))
  have HPk := Lib.hid (fun w' => word_pack w' (P.claim.word.next P.en P.tick.lo P.tick.hi) hnx)
  have HPh := Lib.hid (fun w' h => claim_phase w' cb P.claim h)
  have HPt := Lib.hid (fun w' h => tick_phase w' tb P.tick h)
  rw [hc] at HPh
  rw [ht] at HPt
  obtain ⟨hrc, hrf⟩ := blk_S (S2).blk; have hbt := blk_lt (S2).blk
  generalize P.claim.slot = sl at *
  have HS0 := Lib.hid (S2.cast (show _ = claimP cb P.claim * (tickP tb P.tick * memP p m * blkP pb (P.row cb tb) 127) by ac_rfl))
  have HS5 := Lib.hid (S2.cast (show _ = tickP tb P.tick * (claimP cb P.claim * memP p m * blkP pb (P.row cb tb) 127) by ac_rfl))
  have HS1 := Lib.hid (S2.cast (show _ = memP p m * (claimP cb P.claim * tickP tb P.tick * blkP pb (P.row cb tb) 127) by ac_rfl))
  have HC0 := Lib.hid (blk_drew HS0.out.blk)
  have HT0 := Lib.hid (blk_drew HS5.out.blk)
  obtain ⟨⟨ct, cs, src, del⟩, who, en, value, claim, tick, stored, phase⟩ := P
  simp only [PutS.row] at hrc hp hst HSl HSt HPh HPt HS0 HS1 HS5 HWd HSp HNx HPk HC0 HT0 ht1 hs1
  subst hp hst
  have B0 : Blk w.drew pb #[.int .i64 ct, .int .i64 cs, .int .i64 src, .int .i64 del, .int .i64 who, .int .i64 en, .int .u64 value, .pointer (some ⟨cb, 0, none⟩), .pointer (some ⟨tb, 0, none⟩), .bool true, .int .i64 0] 127 := S2.drew.blk
  clear S0 S1 S2 ho hf hw1 hw2 hnx
  go_enter Try.func56, Try.ntmps56
  go_wp2_with (first | (go_at_call 69; refine (HPh.out _ HS0.out.blk).mono ?_; rintro e _ ⟨rfl, rfl⟩) | (go_at_call 72; refine (HPt.out _ HS5.out.blk).mono ?_; rintro e _ ⟨rfl, rfl⟩))
  go_region_held3 (fun w' => (∀ o, w'.cell? ⟨pb, o, none⟩ = (#[.int .i64 ct, .int .i64 cs, .int .i64 src, .int .i64 del, .int .i64 who, .int .i64 en, .int .u64 value, .pointer (some ⟨cb, 0, none⟩), .pointer (some ⟨tb, 0, none⟩), .bool true, .int .i64 0] : Array Value)[o]?))
    (first | with_reducible exact fun o => blk_cell B0 o | with_reducible exact fun o => blk_cell B1 o | with_reducible exact fun o => blk_cell B2 o | with_reducible exact fun o => blk_cell B3 o | with_reducible exact fun o => blk_cell B4 o | with_reducible exact fun o => blk_cell B5 o | with_reducible exact fun o => blk_cell B6 o | with_reducible exact fun o => blk_cell B7 o)
    (first | (go_at_call 74; refine (HSl.out _ HC0.out).mono ?_; rintro e w1 ⟨rfl, q1⟩; have p1 := q1; have B1 := blk_frm B0 p1 (by simp)) | (go_at_call 30; refine (lay_word _ ct cs src del sl).mono ?_; rintro e w2 ⟨rfl, q2⟩; have p2 := p1.tr q2; have B2 := blk_frm B0 p2 (by simp)) | (go_at_call 75; refine (HWd.out _ (blk_frm HC0.out p2 (by simp))).mono ?_; rintro e w3 ⟨rfl, q3⟩; have p3 := p2.tr q3; have B3 := blk_frm B0 p3 (by simp)) | (go_at_call 77; refine (HSp.out _ (blk_frm HT0.out p3 (by simp))).mono ?_; rintro e w4 ⟨rfl, q4⟩; have p4 := p3.tr q4; have B4 := blk_frm B0 p4 (by simp)) | (go_at_call 76; refine (HNx.out _).mono ?_; rintro e w5 ⟨rfl, q5⟩; have p5 := p4.tr q5; have B5 := blk_frm B0 p5 (by simp)) | (go_at_call 33; refine (HPk.out _).mono ?_; rintro e w6 ⟨rfl, q6⟩; have p6 := p5.tr q6; have B6 := blk_frm B0 p6 (by simp)) | (go_at_call 31; refine ((HS1.out.drew.ext p6).call (HSt.out _)).mono ?_; rintro e w7 ⟨_, ⟨rfl, rfl⟩, S3⟩; have S4 := S3.cast (show _ = blkP pb #[.int .i64 ct, .int .i64 cs, .int .i64 src, .int .i64 del, .int .i64 who, .int .i64 en, .int .u64 value, .pointer (some ⟨cb, 0, none⟩), .pointer (some ⟨tb, 0, none⟩), .bool true, .int .i64 0] 127 * (claimP cb claim * tickP tb tick * memP p (m.put who 1 sl ((claim.word.next en tick.lo tick.hi).pack) true)) by ac_rfl); have B7 := S4.blk))
  have HS4 := Lib.hid S4
  clear hrc hrf hbt
  obtain ⟨hrc, hrf⟩ := blk_S (S4).blk; have hbt := blk_lt (S4).blk
  clear S3 S4 B0 B1 B2 B3 B4 B5 B6 B7 q1 q2 q3 q4 q5 q6 p1 p2 p3 p4 p5 p6
  go_wp2
  go_ret
  refine ⟨_, ⟨rfl, rfl⟩, Sx.mkL (cb, tb) ((HS4.out.set 10 (.int .i64 1)).cast ?_)⟩
  simp [PutS.row]
  ac_rfl

/-- A step of a Put. -/
theorem put_step (w : World) (pb p n : Nat) (P : PutS) (m : MemS) (now : Int) (hf : Fits P.cf n m) (ho : P.Ok n) (hlog : m.log.length < 1099511627776) :
    Tri w 56 #[.pointer (some ⟨pb, 0, none⟩), .pointer (some ⟨p, 0, none⟩), .int .i64 now] (putP pb P * memP p m)
      fun e R => e = .returned (.int .i64 (P.step n now m).1.phase) ∧ R = putP pb (P.step n now m).1 * memP p (P.step n now m).2 := by
  by_cases hp : P.phase = 0
  · by_cases hc : P.claim.phase = 0
    · exact put_claims w pb p n P m now hf ho hlog hp hc
    · have hc1 : P.claim.phase = 1 := by
        have h1 := ho.co.ph
        have h2 := ho.c2 hp
        omega
      by_cases ht : P.tick.phase = 0
      · exact put_ticks w pb p n P m now hf ho hlog hp hc1 ht
      · have ht1 : P.tick.phase = 1 := by
          have h1 := ho.to.ph
          have h2 := ho.t2 hp
          omega
        cases hs : P.stored with
        | false => exact put_stores w pb p n P m now hf ho hlog hp hc1 ht1 hs
        | true => exact put_ends w pb p n P m now hf ho hlog hp hc1 ht1 hs
  · have e : P.step n now m = (P, m) := by unfold PutS.step; rw [if_pos hp]
    rw [e]
    exact put_over w pb p P m now (ho.ph.resolve_left hp)

def put0 (cf : Cf) (who : Nat) (en value : Int) : PutS := ⟨cf, who, en, value, claim0 cf who, tick0 cf who, false, 0⟩

set_option maxHeartbeats 4000000 in
theorem put_new (w : World) (ct cs who : Nat) (src del en value : Int) :
    Calls Try.prog 54 #[.agg #[.int .i64 ct, .int .i64 cs, .int .i64 src, .int .i64 del], .int .i64 who, .int .i64 en, .int .u64 value] w fun e w' =>
      ∃ pb A, e = .returned (.pointer (some ⟨pb, 0, none⟩)) ∧ (putP pb (put0 ⟨ct, cs, src, del⟩ who en value)).on w' A ∧ (∀ x, A x → w.heap.size ≤ x) ∧ Frm [] w w' := by
  have B0 := blk_drew (blk_new w #[.int .i64 ct, .int .i64 cs, .int .i64 src, .int .i64 del] 27)
  go_enter Try.func54, Try.ntmps54
  go_wp2_with fail
  go_region_held3 (fun w' => (∀ o, w'.cell? ⟨w.heap.size, o, none⟩ = (#[.int .i64 ct, .int .i64 cs, .int .i64 src, .int .i64 del] : Array Value)[o]?))
    (first | with_reducible exact fun o => blk_cell B0 o | with_reducible exact fun o => blk_cell B1 o | with_reducible exact fun o => blk_cell B2 o | with_reducible exact fun o => blk_cell (blk_alloc B2 _) o)
    (first | (go_at_call 67; refine (claim_new _ ct cs who src del).mono ?_; rintro e w1 ⟨cb, rfl, hcb, C1, q1⟩; have B1 := blk_frm B0 q1 (by simp)) | (go_at_call 68; refine (tick_new _ ct cs who src del).mono ?_; rintro e w2 ⟨tb, rfl, htb, T2, q2⟩; have B2 := blk_frm B1 q2 (by simp)))
  have a3 : ((w.alloc (.cells #[.int .i64 ct, .int .i64 cs, .int .i64 src, .int .i64 del] 27)).drew).heap.size = w.heap.size + 1 := size_al _ _
  have hc1 := blk_lt C1
  have ht1 := blk_lt T2
  have z1 := q1.size
  have z2 := q2.size
  have HC := Lib.hid (blk_frm C1 q2 (by simp))
  have HT := Lib.hid T2
  have HQ := Lib.hid ((((Frm.alloc [] w (.cells #[.int .i64 ct, .int .i64 cs, .int .i64 src, .int .i64 del] 27)).tr (Frm.drew _ _)).tr q1).tr q2)
  clear C1 T2 q1 q2 B0 B1 B2
  go_wp2
  go_ret
  refine ⟨w2.heap.size, _, rfl, ⟨(cb, tb), _, _, ⟨blk_new _ _ _, rfl⟩, ⟨_, _, ⟨blk_alloc HC.out _, rfl⟩, ⟨blk_alloc HT.out _, rfl⟩, ?_, rfl⟩, ?_, rfl⟩, ?_, HQ.out.tr (Frm.alloc _ _ _)⟩
  · rintro x rfl h; omega
  · rintro x rfl h; rcases h with h | h <;> omega
  · rintro x h; rcases h with h | h | h <;> omega

theorem put_phase (w : World) (pb : Nat) (P : PutS) (cb tb : Nat) (h : Blk w pb (P.row cb tb) 127) :
    Calls Try.prog 136 #[.pointer (some ⟨pb, 0, none⟩)] w fun e w' => e = .returned (.int .i64 P.phase) ∧ w = w' := by
  obtain ⟨hrc, hrf⟩ := blk_S h
  obtain ⟨⟨ct, cs, src, del⟩, who, en, value, claim, tick, stored, phase⟩ := P
  simp only [PutS.row] at *
  clear h
  go_enter Try.func136, Try.ntmps136
  go_wp2
  go_ret
  exact ⟨rfl, rfl⟩

/-- When it came; nothing, as long as it isn't done. -/
def PutS.st (P : PutS) : Int × Int := if P.phase = 1 then (P.tick.lo, P.tick.hi) else (0, 0)
theorem put_stamp (w : World) (pb : Nat) (P : PutS) (cb tb : Nat) (h : Blk w pb (P.row cb tb) 127) (ht : Blk w tb P.tick.row 134) :
    Calls Try.prog 57 #[.pointer (some ⟨pb, 0, none⟩)] w fun e w' => e = .returned (.agg #[.int .i64 P.st.1, .int .i64 P.st.2]) ∧ Frm [] w w' := by
  have hbt := blk_lt h
  obtain ⟨hrc, hrf⟩ := blk_S h
  have HT := Lib.hid (fun w' (q : Frm [] w w') => tick_stamp w' tb P.tick (blk_frm ht q (by simp)))
  obtain ⟨⟨ct, cs, src, del⟩, who, en, value, claim, tick, stored, phase⟩ := P
  simp only [PutS.row] at *
  clear h ht
  unfold PutS.st
  simp only
  by_cases hp : phase = 1
  · rw [if_pos hp]
    have hpb : (phase != 1) = false := by simpa using hp
    clear hp
    go_enter Try.func57, Try.ntmps57
    go_wp2_with (go_at_call 77; refine (HT.out _ (Frm.alloc _ _ _)).mono ?_; rintro e w1 ⟨rfl, q1⟩; have HQ := Lib.hid q1; have hB := Lib.hid (blk_frm (blk_new w #[.int .i64 0, .int .i64 0] 57) q1 (by simp)); obtain ⟨hxc, hxf⟩ := blk_S hB.out; clear q1)
    have hB2 := Lib.hid (blk_set (blk_set hB.out 0 (.int .i64 tick.lo)) 1 (.int .i64 tick.hi))
    have hfr : Frm [] w ((w1.setCell ⟨w.heap.size, 0, none⟩ (.int .i64 tick.lo)).setCell ⟨w.heap.size, 1, none⟩ (.int .i64 tick.hi)) :=
      (((Frm.alloc [] w _).tr HQ.out).trans (Frm.setCell (F := [w.heap.size]) w1 (a := ⟨w.heap.size, 0, none⟩) (.int .i64 tick.lo) (by simp)) (fun _ _ h => h) (fun x hx _ hm => by simp at hm; omega)).trans (Frm.setCell (F := [w.heap.size]) _ (a := ⟨w.heap.size, 1, none⟩) (.int .i64 tick.hi) (by simp)) (fun _ _ h => h) (fun x hx _ hm => by simp at hm; omega)
    obtain ⟨hyc, _⟩ := blk_S hB2.out
    have hy0 := hyc 0
    have hy1 := hyc 1
    refine bodyPost_ret (v := .agg #[.int .i64 tick.lo, .int .i64 tick.hi]) (by simp [results, Try.results57, go_sem, hy0, hy1]) rfl ⟨rfl, hfr⟩
  · rw [if_neg hp]
    have hpb : (phase != 1) = true := by simpa using hp
    go_enter Try.func57, Try.ntmps57
    go_wp2
    refine bodyPost_ret (v := .agg #[.int .i64 0, .int .i64 0]) (by simp [results, Try.results57, go_sem]) rfl ⟨rfl, Frm.alloc _ _ _⟩

end Go.Proofs.Ytkcimjcmlibgpaa
