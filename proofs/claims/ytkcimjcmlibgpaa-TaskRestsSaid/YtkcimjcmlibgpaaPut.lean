/-
  Package put: what a Put is; its steps, kind by kind. Conditions: the cells fit the layout; the thread is there; the log is short.
-/
import Derived.Test.YtkcimjcmlibgpaaTickC
import Derived.Test.YtkcimjcmlibgpaaClaimB
namespace Go.Proofs.Ytkcimjcmlibgpaa
open Go.RowKit

theorem Sx.exL {W0 w : World} {F0 : Nat → Prop} {α : Type} {f : α → HP} {R : HP} (h : Sx W0 F0 w (HP.ex f * R)) : ∃ a, Sx W0 F0 w (f a * R) := by
  rw [HP.ex_star] at h
  obtain ⟨F, ⟨a, h1⟩, hu⟩ := h
  exact ⟨a, F, h1, hu⟩
theorem Sx.mkL {W0 w : World} {F0 : Nat → Prop} {α : Type} {f : α → HP} {R : HP} (a : α) (h : Sx W0 F0 w (f a * R)) : Sx W0 F0 w (HP.ex f * R) := by
  rw [HP.ex_star]
  obtain ⟨F, h1, hu⟩ := h
  exact ⟨F, ⟨a, h1⟩, hu⟩

structure PutS where
  cf : Cf
  who : Nat
  en : Int
  value : Int
  claim : ClaimS
  tick : TickS
  stored : Bool
  phase : Int

def PutS.row (P : PutS) (cb tb : Nat) : Array Value := #[.int .i64 P.cf.t, .int .i64 P.cf.s, .int .i64 P.cf.src, .int .i64 P.cf.del, .int .i64 P.who, .int .i64 P.en, .int .u64 P.value, .pointer (some ⟨cb, 0, none⟩), .pointer (some ⟨tb, 0, none⟩), .bool P.stored, .int .i64 P.phase]
/-- A Put in memory: its struct, its Claim, its Ticker. -/
def putP (pb : Nat) (P : PutS) : HP := HP.ex fun a : Nat × Nat => blkP pb (P.row a.1 a.2) 127 * (claimP a.1 P.claim * tickP a.2 P.tick)

/-- A step of a Put, at a time. -/
def PutS.step (n : Nat) (now : Int) (P : PutS) (m : MemS) : PutS × MemS :=
  if P.phase ≠ 0 then (P, m)
  else if P.claim.phase = 0 then ({ P with claim := (P.claim.step n m).1, phase := if (P.claim.step n m).1.phase = 2 then 2 else 0 }, (P.claim.step n m).2)
  else if P.tick.phase = 0 then ({ P with tick := (P.tick.step n now m).1, phase := if (P.tick.step n now m).1.phase = 2 then 2 else 0 }, (P.tick.step n now m).2)
  else if P.stored = false then ({ P with stored := true }, m.put P.who 1 (n + P.claim.slot) P.value true)
  else ({ P with phase := 1 }, m.put P.who 1 P.claim.slot ((P.claim.word.next P.en P.tick.lo P.tick.hi).pack) true)

structure PutS.Ok (n : Nat) (P : PutS) : Prop where
  who : P.who < P.cf.t
  en : P.en = 0 ∨ P.en = 1
  v : U64 P.value
  cc : P.claim.cf = P.cf
  cw : P.claim.who = P.who
  tc : P.tick.cf = P.cf
  tw : P.tick.who = P.who
  co : P.claim.Ok
  to : P.tick.Ok
  ph : P.phase = 0 ∨ P.phase = 1 ∨ P.phase = 2
  c2 : P.phase = 0 → P.claim.phase ≠ 2
  t2 : P.phase = 0 → P.tick.phase ≠ 2
  ts : P.tick.phase = 1 → stOk P.tick.lo P.tick.hi

/-- It ends, if a part of it is full. -/
theorem put_full (w : World) (pb : Nat) (P : PutS) (cb tb : Nat) (f : Int) (hp : P.phase = 0) :
    Tri w 70 #[.pointer (some ⟨pb, 0, none⟩), .int .i64 f] (blkP pb (P.row cb tb) 127) fun e R => e = .returned (.tuple #[]) ∧ R = blkP pb (PutS.row { P with phase := if f = 2 then 2 else 0 } cb tb) 127 := by
  refine Tri.walk fun F S0 => ?_
  have HS0 := Lib.hid S0
  obtain ⟨hrc, hrf⟩ := blk_S S0.blk1
  obtain ⟨⟨ct, cs, src, del⟩, who, en, value, claim, tick, stored, phase⟩ := P
  simp only [PutS.row] at hrc hp
  subst hp
  clear S0
  by_cases hf : f = 2
  · subst hf
    go_enter Try.func70, Try.ntmps70
    go_wp2
    go_end0
    refine ⟨_, ⟨rfl, rfl⟩, (HS0.out.set1 10 (.int .i64 2)).cast ?_⟩
    simp [PutS.row]
  · have e : (if f = 2 then (2 : Int) else 0) = 0 := if_neg hf
    rw [e]
    have hfb : (f == 2) = false := by simpa using hf
    clear e hf
    go_enter Try.func70, Try.ntmps70
    go_wp2
    go_end0
    exact ⟨_, ⟨rfl, rfl⟩, HS0.out⟩

set_option maxHeartbeats 4000000 in
theorem put_over (w : World) (pb p : Nat) (P : PutS) (m : MemS) (now : Int) (h : P.phase = 1 ∨ P.phase = 2) :
    Tri w 56 #[.pointer (some ⟨pb, 0, none⟩), .pointer (some ⟨p, 0, none⟩), .int .i64 now] (putP pb P * memP p m)
      fun e R => e = .returned (.int .i64 P.phase) ∧ R = putP pb P * memP p m := by
  refine Tri.walk fun F S0 => ?_
  have HS0 := Lib.hid S0
  obtain ⟨⟨cb, tb⟩, S1⟩ := Sx.exL S0
  have S2 := S1.cast (HP.star_assoc _ _ _)
  obtain ⟨hrc, hrf⟩ := blk_S (S2).blk; have hbt := blk_lt (S2).blk
  obtain ⟨⟨ct, cs, src, del⟩, who, en, value, claim, tick, stored, phase⟩ := P
  simp only [PutS.row] at hrc h
  clear S0 S1 S2
  rcases h with rfl | rfl
  all_goals
    go_enter Try.func56, Try.ntmps56
    go_wp2
    go_ret
    exact ⟨_, ⟨rfl, rfl⟩, HS0.out⟩

set_option maxHeartbeats 4000000 in
theorem put_claims (w : World) (pb p n : Nat) (P : PutS) (m : MemS) (now : Int) (hf : Fits P.cf n m) (ho : P.Ok n) (hlog : m.log.length < 1099511627776) (hp : P.phase = 0) (hc : P.claim.phase = 0) :
    Tri w 56 #[.pointer (some ⟨pb, 0, none⟩), .pointer (some ⟨p, 0, none⟩), .int .i64 now] (putP pb P * memP p m)
      fun e R => e = .returned (.int .i64 (P.step n now m).1.phase) ∧ R = putP pb (P.step n now m).1 * memP p (P.step n now m).2 := by
  have e0 : P.step n now m = ({ P with claim := (P.claim.step n m).1, phase := if (P.claim.step n m).1.phase = 2 then 2 else 0 }, (P.claim.step n m).2) := by
    unfold PutS.step; rw [if_neg (by omega), if_pos hc]
  rw [e0]
  clear e0
  refine Tri.walk fun F S0 => ?_
  obtain ⟨⟨cb, tb⟩, S1⟩ := Sx.exL S0
  have S2 := S1.cast (HP.star_assoc _ _ _)
  have HC := Lib.hid (fun w' => claim_step w' cb p n P.claim m (by rw [ho.cc]; exact hf) ho.co hlog)
  have HPh := Lib.hid (fun w' h => claim_phase w' cb P.claim h)
  rw [hc] at HPh
  obtain ⟨hrc, hrf⟩ := blk_S (S2).blk; have hbt := blk_lt (S2).blk
  generalize P.claim.step n m = r at *
  obtain ⟨c', m'⟩ := r
  have HF := Lib.hid (fun w' => put_full w' pb P cb tb c'.phase hp)
  simp only at HF HC ⊢
  generalize (if c'.phase = 2 then (2 : Int) else 0) = ff at HF ⊢
  have HS0 := Lib.hid (S2.cast (show _ = claimP cb P.claim * (tickP tb P.tick * memP p m * blkP pb (P.row cb tb) 127) by ac_rfl))
  have HS1 := Lib.hid (S2.cast (show _ = claimP cb P.claim * memP p m * (tickP tb P.tick * blkP pb (P.row cb tb) 127) by ac_rfl))
  obtain ⟨⟨ct, cs, src, del⟩, who, en, value, claim, tick, stored, phase⟩ := P
  simp only [PutS.row] at hrc hp HC HF HPh HS0 HS1
  subst hp
  clear S0 S1 S2 ho hf
  go_enter Try.func56, Try.ntmps56
  go_wp2_with (first | (go_at_call 69; refine (HPh.out _ HS0.out.blk).mono ?_; rintro e _ ⟨rfl, rfl⟩) | (go_at_call 71; refine (HS1.out.call (HC.out _)).mono ?_; rintro e w2 ⟨_, ⟨rfl, rfl⟩, S3⟩; have HS3 := Lib.hid (S3.cast (HP.star_comm _ _)); clear hrc hrf hbt S3) | (go_at_call 70; refine ((HS3.out.cast (show _ = blkP pb #[.int .i64 ct, .int .i64 cs, .int .i64 src, .int .i64 del, .int .i64 who, .int .i64 en, .int .u64 value, .pointer (some ⟨cb, 0, none⟩), .pointer (some ⟨tb, 0, none⟩), .bool stored, .int .i64 0] 127 * (tickP tb tick * (claimP cb c' * memP p m')) by ac_rfl)).call (HF.out _)).mono ?_; rintro e w4 ⟨_, ⟨rfl, rfl⟩, S4⟩; have HS4 := Lib.hid S4; have hc10 := (blk_cell S4.blk 10).trans (show _ = some (.int .i64 ff) from rfl); clear S4))
  go_ret
  refine ⟨_, ⟨rfl, rfl⟩, Sx.mkL (cb, tb) (HS4.out.cast ?_)⟩
  simp only [PutS.row]
  ac_rfl

set_option maxHeartbeats 4000000 in
theorem put_ticks (w : World) (pb p n : Nat) (P : PutS) (m : MemS) (now : Int) (hf : Fits P.cf n m) (ho : P.Ok n) (hlog : m.log.length < 1099511627776) (hp : P.phase = 0) (hc : P.claim.phase = 1) (ht : P.tick.phase = 0) :
    Tri w 56 #[.pointer (some ⟨pb, 0, none⟩), .pointer (some ⟨p, 0, none⟩), .int .i64 now] (putP pb P * memP p m)
      fun e R => e = .returned (.int .i64 (P.step n now m).1.phase) ∧ R = putP pb (P.step n now m).1 * memP p (P.step n now m).2 := by
  have e0 : P.step n now m = ({ P with tick := (P.tick.step n now m).1, phase := if (P.tick.step n now m).1.phase = 2 then 2 else 0 }, (P.tick.step n now m).2) := by
    unfold PutS.step; rw [if_neg (by omega), if_neg (by omega), if_pos ht]
  rw [e0]
  clear e0
  refine Tri.walk fun F S0 => ?_
  obtain ⟨⟨cb, tb⟩, S1⟩ := Sx.exL S0
  have S2 := S1.cast (HP.star_assoc _ _ _)
  have HC := Lib.hid (fun w' => tick_step w' tb p n P.tick m now (by rw [ho.tc]; exact hf) ho.to hlog)
  have HPh := Lib.hid (fun w' h => claim_phase w' cb P.claim h)
  have HPt := Lib.hid (fun w' h => tick_phase w' tb P.tick h)
  rw [hc] at HPh
  rw [ht] at HPt
  obtain ⟨hrc, hrf⟩ := blk_S (S2).blk; have hbt := blk_lt (S2).blk
  generalize P.tick.step n now m = r at *
  obtain ⟨c', m'⟩ := r
  have HF := Lib.hid (fun w' => put_full w' pb P cb tb c'.phase hp)
  simp only at HF HC ⊢
  generalize (if c'.phase = 2 then (2 : Int) else 0) = ff at HF ⊢
  have HS0 := Lib.hid (S2.cast (show _ = claimP cb P.claim * (tickP tb P.tick * memP p m * blkP pb (P.row cb tb) 127) by ac_rfl))
  have HS5 := Lib.hid (S2.cast (show _ = tickP tb P.tick * (claimP cb P.claim * memP p m * blkP pb (P.row cb tb) 127) by ac_rfl))
  have HS1 := Lib.hid (S2.cast (show _ = tickP tb P.tick * memP p m * (claimP cb P.claim * blkP pb (P.row cb tb) 127) by ac_rfl))
  obtain ⟨⟨ct, cs, src, del⟩, who, en, value, claim, tick, stored, phase⟩ := P
  simp only [PutS.row] at hrc hp HC HF HPh HPt HS0 HS1 HS5
  subst hp
  clear S0 S1 S2 ho hf
  go_enter Try.func56, Try.ntmps56
  go_wp2_with (first | (go_at_call 69; refine (HPh.out _ HS0.out.blk).mono ?_; rintro e _ ⟨rfl, rfl⟩) | (go_at_call 72; refine (HPt.out _ HS5.out.blk).mono ?_; rintro e _ ⟨rfl, rfl⟩) | (go_at_call 73; refine (HS1.out.call (HC.out _)).mono ?_; rintro e w2 ⟨_, ⟨rfl, rfl⟩, S3⟩; have HS3 := Lib.hid (S3.cast (HP.star_comm _ _)); clear hrc hrf hbt S3) | (go_at_call 70; refine ((HS3.out.cast (show _ = blkP pb #[.int .i64 ct, .int .i64 cs, .int .i64 src, .int .i64 del, .int .i64 who, .int .i64 en, .int .u64 value, .pointer (some ⟨cb, 0, none⟩), .pointer (some ⟨tb, 0, none⟩), .bool stored, .int .i64 0] 127 * (claimP cb claim * (tickP tb c' * memP p m')) by ac_rfl)).call (HF.out _)).mono ?_; rintro e w4 ⟨_, ⟨rfl, rfl⟩, S4⟩; have HS4 := Lib.hid S4; have hc10 := (blk_cell S4.blk 10).trans (show _ = some (.int .i64 ff) from rfl); clear S4))
  go_ret
  refine ⟨_, ⟨rfl, rfl⟩, Sx.mkL (cb, tb) (HS4.out.cast ?_)⟩
  simp only [PutS.row]
  ac_rfl

set_option maxHeartbeats 4000000 in
theorem put_stores (w : World) (pb p n : Nat) (P : PutS) (m : MemS) (now : Int) (hf : Fits P.cf n m) (ho : P.Ok n) (hlog : m.log.length < 1099511627776) (hp : P.phase = 0) (hc : P.claim.phase = 1) (ht : P.tick.phase = 1) (hst : P.stored = false) :
    Tri w 56 #[.pointer (some ⟨pb, 0, none⟩), .pointer (some ⟨p, 0, none⟩), .int .i64 now] (putP pb P * memP p m)
      fun e R => e = .returned (.int .i64 (P.step n now m).1.phase) ∧ R = putP pb (P.step n now m).1 * memP p (P.step n now m).2 := by
  have e0 : P.step n now m = ({ P with stored := true }, m.put P.who 1 (n + P.claim.slot) P.value true) := by
    unfold PutS.step; rw [if_neg (by omega), if_neg (by omega), if_neg (by omega), if_pos hst]
  rw [e0]
  clear e0
  refine Tri.walk fun F S0 => ?_
  obtain ⟨⟨cb, tb⟩, S1⟩ := Sx.exL S0
  have S2 := S1.cast (HP.star_assoc _ _ _)
  have hcf := ho.cc
  have hsl : P.claim.slot < n := slot_bound (by rw [hcf]; exact hf.hn) ho.co.who ho.co.k
  have hle := hf.le
  have hlen := hf.len
  have ht1 := hf.t1
  have hs1 := hf.s1
  have HN := Lib.hid hf.hn
  have HSl := Lib.hid (fun w' (h : Blk w' cb P.claim.row 132) => claim_slot w' cb P.claim h (by rw [hcf]; exact hs1) (by have := ho.co.who; rw [hcf] at this; omega) (by have := ho.co.k; rw [hcf] at this; omega))
  have HSt := Lib.hid (fun w' => store_tri w' p m P.who P.value (n + P.claim.slot) (by omega) hlog ho.v)
  have HPh := Lib.hid (fun w' h => claim_phase w' cb P.claim h)
  have HPt := Lib.hid (fun w' h => tick_phase w' tb P.tick h)
  rw [hc] at HPh
  rw [ht] at HPt
  obtain ⟨hrc, hrf⟩ := blk_S (S2).blk; have hbt := blk_lt (S2).blk
  generalize P.claim.slot = sl at *
  have HS0 := Lib.hid (S2.cast (show _ = claimP cb P.claim * (tickP tb P.tick * memP p m * blkP pb (P.row cb tb) 127) by ac_rfl))
  have HS5 := Lib.hid (S2.cast (show _ = tickP tb P.tick * (claimP cb P.claim * memP p m * blkP pb (P.row cb tb) 127) by ac_rfl))
  have HS1 := Lib.hid (S2.cast (show _ = memP p m * (claimP cb P.claim * tickP tb P.tick * blkP pb (P.row cb tb) 127) by ac_rfl))
  obtain ⟨⟨ct, cs, src, del⟩, who, en, value, claim, tick, stored, phase⟩ := P
  simp only [PutS.row] at hrc hp hst HSl HSt HPh HPt HS0 HS1 HS5 ht1 hs1 HN
  subst hp hst
  have B0 : Blk w.drew pb #[.int .i64 ct, .int .i64 cs, .int .i64 src, .int .i64 del, .int .i64 who, .int .i64 en, .int .u64 value, .pointer (some ⟨cb, 0, none⟩), .pointer (some ⟨tb, 0, none⟩), .bool false, .int .i64 0] 127 := S2.drew.blk
  clear S0 S1 S2 ho hf
  go_enter Try.func56, Try.ntmps56
  go_wp2_with (first | (go_at_call 69; refine (HPh.out _ HS0.out.blk).mono ?_; rintro e _ ⟨rfl, rfl⟩) | (go_at_call 72; refine (HPt.out _ HS5.out.blk).mono ?_; rintro e _ ⟨rfl, rfl⟩))
  go_region_held3 (fun w' => (∀ o, w'.cell? ⟨pb, o, none⟩ = (#[.int .i64 ct, .int .i64 cs, .int .i64 src, .int .i64 del, .int .i64 who, .int .i64 en, .int .u64 value, .pointer (some ⟨cb, 0, none⟩), .pointer (some ⟨tb, 0, none⟩), .bool false, .int .i64 0] : Array Value)[o]?))
    (first | with_reducible exact fun o => blk_cell B0 o | with_reducible exact fun o => blk_cell B1 o | with_reducible exact fun o => blk_cell B2 o | with_reducible exact fun o => blk_cell B3 o)
    (first | (go_at_call 74; refine (HSl.out _ (blk_drew HS0.out.blk)).mono ?_; rintro e w1 ⟨rfl, q1⟩; have S1 := HS1.out.drew.ext q1; have B1 := blk_frm B0 q1 (by simp)) | (go_at_call 25; refine (lay_value _ ct cs src del ht1 hs1 sl (by omega) n HN.out).mono ?_; rintro e w2 ⟨rfl, q2⟩; have S2 := S1.ext q2; have B2 := blk_frm B1 q2 (by simp)) | (go_at_call 31; refine (S2.call (HSt.out _)).mono ?_; rintro e w3 ⟨_, ⟨rfl, rfl⟩, S3⟩; have S4 := S3.cast (show _ = blkP pb #[.int .i64 ct, .int .i64 cs, .int .i64 src, .int .i64 del, .int .i64 who, .int .i64 en, .int .u64 value, .pointer (some ⟨cb, 0, none⟩), .pointer (some ⟨tb, 0, none⟩), .bool false, .int .i64 0] 127 * (claimP cb claim * tickP tb tick * memP p (m.put who 1 (n + sl) value true)) by ac_rfl); have B3 := S4.blk))
  have HS4 := Lib.hid S4
  clear hrc hrf hbt
  obtain ⟨hrc, hrf⟩ := blk_S (S4).blk; have hbt := blk_lt (S4).blk
  clear S1 S2 S3 S4 B0 B1 B2 B3 q1 q2
  go_wp2
  go_ret
  refine ⟨_, ⟨rfl, rfl⟩, Sx.mkL (cb, tb) ((HS4.out.set 9 (.bool true)).cast ?_)⟩
  simp [PutS.row]
  ac_rfl

end Go.Proofs.Ytkcimjcmlibgpaa
