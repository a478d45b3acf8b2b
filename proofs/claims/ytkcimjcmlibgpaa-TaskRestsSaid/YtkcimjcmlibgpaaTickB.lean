/-
  Package tick: swap, step by step. Conditions: the cells fit the layout; the thread is there; the log is short.
-/
import Derived.Test.YtkcimjcmlibgpaaTick
namespace Go.Proofs.Ytkcimjcmlibgpaa
open Go.RowKit

/-- A step of swap. -/
def TickS.swp (n : Nat) (t : TickS) (m : MemS) : TickS × MemS :=
  if t.steps = 0 then (if 16777215 ≤ t.ld n m 0 then { t with a := t.ld n m 0, phase := 2 } else { t with a := t.ld n m 0 }, m.ld t.who (t.num n 0))
  else if t.steps = 1 then (if t.ld n m 0 = t.a then { t with b := t.ld n m 0 } else ({ t with b := t.ld n m 0 } : TickS).fin t.a (t.ld n m 0 - 1), m.ld t.who (t.num n 0))
  else if t.steps = 2 then
    (if m.at (t.num n 0) = t.a then (t.fin t.a t.a, m.put t.who 2 (t.num n 0) (t.a + 1) true) else (t, m.put t.who 2 (t.num n 0) (m.at (t.num n 0)) false))
  else (({ t with b := t.ld n m 0 } : TickS).fin t.a (t.ld n m 0 - 1), m.ld t.who (t.num n 0))

theorem ld_bounds {n : Nat} {t : TickS} {m : MemS} {k : Nat} (hu : ∀ k, U64 (m.at k)) : 0 ≤ t.ld n m k ∧ t.ld n m k ≤ 16777215 := by
  unfold TickS.ld
  have := (hu (t.num n k)).1
  omega

theorem fin_row (t : TickS) (lo hi : Int) (o : Nat) (h : o < 8) : (t.fin lo hi).row[o]? = t.row[o]? := by
  unfold TickS.fin
  split
  · obtain rfl | rfl | rfl | rfl | rfl | rfl | rfl | rfl : o = 0 ∨ o = 1 ∨ o = 2 ∨ o = 3 ∨ o = 4 ∨ o = 5 ∨ o = 6 ∨ o = 7 := by omega
    all_goals rfl
  · obtain rfl | rfl | rfl | rfl | rfl | rfl | rfl | rfl : o = 0 ∨ o = 1 ∨ o = 2 ∨ o = 3 ∨ o = 4 ∨ o = 5 ∨ o = 6 ∨ o = 7 := by omega
    all_goals rfl

set_option maxHeartbeats 4000000 in
theorem tick_swap0 (w : World) (tb p n : Nat) (t : TickS) (m : MemS) (hf : Fits t.cf n m) (hwho : t.who < t.cf.t) (hlog : m.log.length < 1099511627776) (hst : t.steps = 0) :
    Tri w 87 #[.pointer (some ⟨tb, 0, none⟩), .pointer (some ⟨p, 0, none⟩)] (tickP tb t * memP p m)
      fun e R => e = .returned (.tuple #[]) ∧ R = tickP tb (t.swp n m).1 * memP p (t.swp n m).2 := by
  have hf' := hf
  refine Tri.walk fun F S0 => ?_
  obtain ⟨⟨ct, cs, src, del⟩, who, steps, a, b, l0, h0, phase⟩ := t
  obtain ⟨hn, ht0, ht1, hs0, hs1, hlen⟩ := hf
  simp only at hn ht0 ht1 hs0 hs1 hlen hwho
  have hle := mul_le ct cs ht1 hs1
  rw [← hn] at hle
  have HN := Lib.hid hn
  have HS0 := Lib.hid S0
  have HLen := Lib.hid hlen
  have hu0 := (S0.cast (HP.star_comm _ _)).u64
  obtain ⟨hrc, hrf⟩ := blk_S (S0).blk; simp only [TickS.row] at hrc; have hbt := blk_lt (S0).blk
  clear S0 hn hlen
  simp only at hst hf'
  subst hst
  have HLd := Lib.hid (fun w' => tick_load w' tb p n ⟨⟨ct, cs, src, del⟩, who, 0, a, b, l0, h0, phase⟩ m 0 (by simp only; omega) hf' hwho hlog)
  have hb := ld_bounds (n := n) (t := ⟨⟨ct, cs, src, del⟩, who, 0, a, b, l0, h0, phase⟩) (k := 0) hu0
  have e0 : TickS.swp n ⟨⟨ct, cs, src, del⟩, who, 0, a, b, l0, h0, phase⟩ m = (if 16777215 ≤ (⟨⟨ct, cs, src, del⟩, who, 0, a, b, l0, h0, phase⟩ : TickS).ld n m 0 then ⟨⟨ct, cs, src, del⟩, who, 0, (⟨⟨ct, cs, src, del⟩, who, 0, a, b, l0, h0, phase⟩ : TickS).ld n m 0, b, l0, h0, 2⟩ else ⟨⟨ct, cs, src, del⟩, who, 0, (⟨⟨ct, cs, src, del⟩, who, 0, a, b, l0, h0, phase⟩ : TickS).ld n m 0, b, l0, h0, phase⟩, m.ld who ((⟨⟨ct, cs, src, del⟩, who, 0, a, b, l0, h0, phase⟩ : TickS).num n 0)) := by
    unfold TickS.swp; rw [if_pos rfl]
  rw [e0]
  clear e0 hu0
  simp only at HLd
  generalize (⟨⟨ct, cs, src, del⟩, who, 0, a, b, l0, h0, phase⟩ : TickS).ld n m 0 = L at HLd hb ⊢
  generalize m.ld who ((⟨⟨ct, cs, src, del⟩, who, 0, a, b, l0, h0, phase⟩ : TickS).num n 0) = m' at HLd ⊢
  by_cases hL : 16777215 ≤ L
  · rw [if_pos hL]
    go_enter Try.func87, Try.ntmps87
    go_wp2_with (go_at_call 91; refine (HS0.out.call1 (HLd.out _)).mono ?_; rintro e w1 ⟨_, ⟨rfl, rfl⟩, S1⟩; have HS1 := Lib.hid S1; clear hrc hrf; obtain ⟨hrc, hrf⟩ := blk_S (S1).blk; simp only [TickS.row] at hrc; have hbt := blk_lt (S1).blk; clear S1)
    go_end0
    refine ⟨_, ⟨rfl, rfl⟩, ((HS1.out.set 6 (.int .i64 L)).set 10 (.int .i64 2)).cast ?_⟩
    simp [tickP, TickS.row]
  · rw [if_neg hL]
    go_enter Try.func87, Try.ntmps87
    go_wp2_with (go_at_call 91; refine (HS0.out.call1 (HLd.out _)).mono ?_; rintro e w1 ⟨_, ⟨rfl, rfl⟩, S1⟩; have HS1 := Lib.hid S1; clear hrc hrf; obtain ⟨hrc, hrf⟩ := blk_S (S1).blk; simp only [TickS.row] at hrc; have hbt := blk_lt (S1).blk; clear S1)
    go_end0
    refine ⟨_, ⟨rfl, rfl⟩, (HS1.out.set 6 (.int .i64 L)).cast ?_⟩
    simp [tickP, TickS.row]

set_option maxHeartbeats 4000000 in
theorem tick_swap1 (w : World) (tb p n : Nat) (t : TickS) (m : MemS) (hf : Fits t.cf n m) (hwho : t.who < t.cf.t) (hlog : m.log.length < 1099511627776) (hst : t.steps = 1) :
    Tri w 87 #[.pointer (some ⟨tb, 0, none⟩), .pointer (some ⟨p, 0, none⟩)] (tickP tb t * memP p m)
      fun e R => e = .returned (.tuple #[]) ∧ R = tickP tb (t.swp n m).1 * memP p (t.swp n m).2 := by
  have hf' := hf
  refine Tri.walk fun F S0 => ?_
  obtain ⟨⟨ct, cs, src, del⟩, who, steps, a, b, l0, h0, phase⟩ := t
  obtain ⟨hn, ht0, ht1, hs0, hs1, hlen⟩ := hf
  simp only at hn ht0 ht1 hs0 hs1 hlen hwho
  have hle := mul_le ct cs ht1 hs1
  rw [← hn] at hle
  have HN := Lib.hid hn
  have HS0 := Lib.hid S0
  have HLen := Lib.hid hlen
  have hu0 := (S0.cast (HP.star_comm _ _)).u64
  obtain ⟨hrc, hrf⟩ := blk_S (S0).blk; simp only [TickS.row] at hrc; have hbt := blk_lt (S0).blk
  clear S0 hn hlen
  simp only at hst hf'
  subst hst
  have HLd := Lib.hid (fun w' => tick_load w' tb p n ⟨⟨ct, cs, src, del⟩, who, 1, a, b, l0, h0, phase⟩ m 0 (by simp only; omega) hf' hwho hlog)
  have hb := ld_bounds (n := n) (t := ⟨⟨ct, cs, src, del⟩, who, 1, a, b, l0, h0, phase⟩) (k := 0) hu0
  have e0 : TickS.swp n ⟨⟨ct, cs, src, del⟩, who, 1, a, b, l0, h0, phase⟩ m = (if (⟨⟨ct, cs, src, del⟩, who, 1, a, b, l0, h0, phase⟩ : TickS).ld n m 0 = a then ⟨⟨ct, cs, src, del⟩, who, 1, a, (⟨⟨ct, cs, src, del⟩, who, 1, a, b, l0, h0, phase⟩ : TickS).ld n m 0, l0, h0, phase⟩ else (⟨⟨ct, cs, src, del⟩, who, 1, a, (⟨⟨ct, cs, src, del⟩, who, 1, a, b, l0, h0, phase⟩ : TickS).ld n m 0, l0, h0, phase⟩ : TickS).fin a ((⟨⟨ct, cs, src, del⟩, who, 1, a, b, l0, h0, phase⟩ : TickS).ld n m 0 - 1), m.ld who ((⟨⟨ct, cs, src, del⟩, who, 1, a, b, l0, h0, phase⟩ : TickS).num n 0)) := by
    unfold TickS.swp; rw [if_neg (by simp), if_pos rfl]
  rw [e0]
  clear e0 hu0
  simp only at HLd
  generalize (⟨⟨ct, cs, src, del⟩, who, 1, a, b, l0, h0, phase⟩ : TickS).ld n m 0 = L at HLd hb ⊢
  generalize m.ld who ((⟨⟨ct, cs, src, del⟩, who, 1, a, b, l0, h0, phase⟩ : TickS).num n 0) = m' at HLd ⊢
  have hlw : IntKind.i64.wrap (L - 1) = L - 1 := w64 (by omega) (by omega)
  by_cases hL : L = a
  · rw [if_pos hL]
    have hne : (L != a) = false := by simp [hL]
    clear hL
    go_enter Try.func87, Try.ntmps87
    go_wp2_with (go_at_call 91; refine (HS0.out.call1 (HLd.out _)).mono ?_; rintro e w1 ⟨_, ⟨rfl, rfl⟩, S1⟩; have HS1 := Lib.hid S1; clear hrc hrf; obtain ⟨hrc, hrf⟩ := blk_S (S1).blk; simp only [TickS.row] at hrc; have hbt := blk_lt (S1).blk; clear S1)
    go_region
    go_wp2
    go_end0
    refine ⟨_, ⟨rfl, rfl⟩, ((HS1.out.set 7 (.int .i64 L)).drew).cast ?_⟩
    simp [tickP, TickS.row]
  · rw [if_neg hL]
    have hne : (L != a) = true := by simp [hL]
    have HDn := Lib.hid (fun w' => tick_done w' tb ⟨⟨ct, cs, src, del⟩, who, 1, a, L, l0, h0, phase⟩ a (L - 1))
    go_enter Try.func87, Try.ntmps87
    go_wp2_with (go_at_call 91; refine (HS0.out.call1 (HLd.out _)).mono ?_; rintro e w1 ⟨_, ⟨rfl, rfl⟩, S1⟩; have HS1 := Lib.hid S1; clear hrc hrf; obtain ⟨hrc, hrf⟩ := blk_S (S1).blk; simp only [TickS.row] at hrc; have hbt := blk_lt (S1).blk; clear S1)
    go_region
    have HS2 := Lib.hid (((HS1.out.set 7 (.int .i64 L)).drew).cast (show _ = tickP tb ⟨⟨ct, cs, src, del⟩, who, 1, a, L, l0, h0, phase⟩ * memP p m' by simp [tickP, TickS.row]))
    go_wp2_with fail
    generalize (w1.setCell ⟨tb, 7, none⟩ (.int .i64 L)).drew = W2 at HS2 ⊢
    clear hrc hrf; obtain ⟨hrc, hrf⟩ := blk_S (HS2.out).blk; simp only [TickS.row] at hrc; have hbt := blk_lt (HS2.out).blk
    go_region_held3 (fun w' => w'.cell? ⟨tb, 6, none⟩ = some (.int .i64 a) ∧ w'.cell? ⟨tb, 7, none⟩ = some (.int .i64 L))
      (first | exact ⟨(blk_cell S3.blk 6).trans (fin_row _ _ _ 6 (by decide)), (blk_cell S3.blk 7).trans (fin_row _ _ _ 7 (by decide))⟩ | exact ⟨blk_cell (blk_drew HS2.out.blk) 6, blk_cell (blk_drew HS2.out.blk) 7⟩)
      (first | (go_at_call 82; refine (HS2.out.drew.call (HDn.out _)).mono ?_; rintro e w3 ⟨_, ⟨rfl, rfl⟩, S3⟩))
    have HS3 := Lib.hid S3
    clear S3 hrc hrf
    go_wp2
    go_end0
    exact ⟨_, ⟨rfl, rfl⟩, HS3.out⟩

set_option maxHeartbeats 4000000 in
theorem tick_swap3 (w : World) (tb p n : Nat) (t : TickS) (m : MemS) (hf : Fits t.cf n m) (hwho : t.who < t.cf.t) (hlog : m.log.length < 1099511627776) (hst : t.steps = 3) :
    Tri w 87 #[.pointer (some ⟨tb, 0, none⟩), .pointer (some ⟨p, 0, none⟩)] (tickP tb t * memP p m)
      fun e R => e = .returned (.tuple #[]) ∧ R = tickP tb (t.swp n m).1 * memP p (t.swp n m).2 := by
  have hf' := hf
  refine Tri.walk fun F S0 => ?_
  obtain ⟨⟨ct, cs, src, del⟩, who, steps, a, b, l0, h0, phase⟩ := t
  obtain ⟨hn, ht0, ht1, hs0, hs1, hlen⟩ := hf
  simp only at hn ht0 ht1 hs0 hs1 hlen hwho
  have hle := mul_le ct cs ht1 hs1
  rw [← hn] at hle
  have HN := Lib.hid hn
  have HS0 := Lib.hid S0
  have HLen := Lib.hid hlen
  have hu0 := (S0.cast (HP.star_comm _ _)).u64
  obtain ⟨hrc, hrf⟩ := blk_S (S0).blk; simp only [TickS.row] at hrc; have hbt := blk_lt (S0).blk
  clear S0 hn hlen
  simp only at hst hf'
  subst hst
  have HLd := Lib.hid (fun w' => tick_load w' tb p n ⟨⟨ct, cs, src, del⟩, who, 3, a, b, l0, h0, phase⟩ m 0 (by simp only; omega) hf' hwho hlog)
  have hb := ld_bounds (n := n) (t := ⟨⟨ct, cs, src, del⟩, who, 3, a, b, l0, h0, phase⟩) (k := 0) hu0
  have e0 : TickS.swp n ⟨⟨ct, cs, src, del⟩, who, 3, a, b, l0, h0, phase⟩ m = ((⟨⟨ct, cs, src, del⟩, who, 3, a, (⟨⟨ct, cs, src, del⟩, who, 3, a, b, l0, h0, phase⟩ : TickS).ld n m 0, l0, h0, phase⟩ : TickS).fin a ((⟨⟨ct, cs, src, del⟩, who, 3, a, b, l0, h0, phase⟩ : TickS).ld n m 0 - 1), m.ld who ((⟨⟨ct, cs, src, del⟩, who, 3, a, b, l0, h0, phase⟩ : TickS).num n 0)) := by
    unfold TickS.swp; rw [if_neg (by simp), if_neg (by simp), if_neg (by simp)]
  rw [e0]
  clear e0 hu0
  simp only at HLd
  generalize (⟨⟨ct, cs, src, del⟩, who, 3, a, b, l0, h0, phase⟩ : TickS).ld n m 0 = L at HLd hb ⊢
  generalize m.ld who ((⟨⟨ct, cs, src, del⟩, who, 3, a, b, l0, h0, phase⟩ : TickS).num n 0) = m' at HLd ⊢
  have hlw : IntKind.i64.wrap (L - 1) = L - 1 := w64 (by omega) (by omega)
  have HDn := Lib.hid (fun w' => tick_done w' tb ⟨⟨ct, cs, src, del⟩, who, 3, a, L, l0, h0, phase⟩ a (L - 1))
  go_enter Try.func87, Try.ntmps87
  go_wp2_with (go_at_call 91; refine (HS0.out.call1 (HLd.out _)).mono ?_; rintro e w1 ⟨_, ⟨rfl, rfl⟩, S1⟩; have HS1 := Lib.hid S1; clear hrc hrf; obtain ⟨hrc, hrf⟩ := blk_S (S1).blk; simp only [TickS.row] at hrc; have hbt := blk_lt (S1).blk; clear S1)
  have HS2 := Lib.hid ((HS1.out.set 7 (.int .i64 L)).cast (show _ = tickP tb ⟨⟨ct, cs, src, del⟩, who, 3, a, L, l0, h0, phase⟩ * memP p m' by simp [tickP, TickS.row]))
  generalize w1.setCell ⟨tb, 7, none⟩ (.int .i64 L) = W2 at HS2 ⊢
  clear hrc hrf; obtain ⟨hrc, hrf⟩ := blk_S (HS2.out).blk; simp only [TickS.row] at hrc; have hbt := blk_lt (HS2.out).blk
  go_region_held3 (fun w' => w'.cell? ⟨tb, 6, none⟩ = some (.int .i64 a) ∧ w'.cell? ⟨tb, 7, none⟩ = some (.int .i64 L))
    (first | exact ⟨(blk_cell S3.blk 6).trans (fin_row _ _ _ 6 (by decide)), (blk_cell S3.blk 7).trans (fin_row _ _ _ 7 (by decide))⟩ | exact ⟨blk_cell (blk_drew HS2.out.blk) 6, blk_cell (blk_drew HS2.out.blk) 7⟩)
    (first | (go_at_call 82; refine (HS2.out.drew.call (HDn.out _)).mono ?_; rintro e w3 ⟨_, ⟨rfl, rfl⟩, S3⟩))
  have HS3 := Lib.hid S3
  clear S3 hrc hrf
  go_wp2
  go_end0
  exact ⟨_, ⟨rfl, rfl⟩, HS3.out⟩

set_option maxHeartbeats 4000000 in
theorem tick_swap2 (w : World) (tb p n : Nat) (t : TickS) (m : MemS) (hf : Fits t.cf n m) (hwho : t.who < t.cf.t) (hlog : m.log.length < 1099511627776) (hst : t.steps = 2) (ha0 : 0 ≤ t.a) (ha1 : t.a ≤ 16777215) :
    Tri w 87 #[.pointer (some ⟨tb, 0, none⟩), .pointer (some ⟨p, 0, none⟩)] (tickP tb t * memP p m)
      fun e R => e = .returned (.tuple #[]) ∧ R = tickP tb (t.swp n m).1 * memP p (t.swp n m).2 := by
  have hf' := hf
  refine Tri.walk fun F S0 => ?_
  obtain ⟨⟨ct, cs, src, del⟩, who, steps, a, b, l0, h0, phase⟩ := t
  obtain ⟨hn, ht0, ht1, hs0, hs1, hlen⟩ := hf
  simp only at hn ht0 ht1 hs0 hs1 hlen hwho
  have hle := mul_le ct cs ht1 hs1
  rw [← hn] at hle
  have HN := Lib.hid hn
  have HS0 := Lib.hid S0
  have HLen := Lib.hid hlen
  have hu0 := (S0.cast (HP.star_comm _ _)).u64
  obtain ⟨hrc, hrf⟩ := blk_S (S0).blk; simp only [TickS.row] at hrc; have hbt := blk_lt (S0).blk
  clear S0 hn hlen
  simp only at hst hf' ha0 ha1
  subst hst
  have haw : IntKind.i64.wrap (a + 1) = a + 1 := w64 (by omega) (by omega)
  have hau : IntKind.u64.wrap (a + 1) = a + 1 := IntWalk.u64_in _ (by omega)
  have hav : IntKind.u64.wrap a = a := IntWalk.u64_in _ (by omega)
  have hk : 2 * n + ct + 0 < m.cells.length := by have := HLen.out; omega
  by_cases hs : m.at (2 * n + ct + 0) = a
  · have e0 : TickS.swp n ⟨⟨ct, cs, src, del⟩, who, 2, a, b, l0, h0, phase⟩ m = ((⟨⟨ct, cs, src, del⟩, who, 2, a, b, l0, h0, phase⟩ : TickS).fin a a, m.put who 2 (2 * n + ct + 0) (a + 1) true) := by
      unfold TickS.swp; rw [if_neg (by simp), if_neg (by simp), if_pos rfl]; exact if_pos hs
    rw [e0]
    have HSw := Lib.hid (fun w' => swapYes_tri w' p m who (a + 1) (2 * n + ct + 0) hk hlog ⟨by omega, by omega⟩)
    rw [hs] at HSw
    have HDn := Lib.hid (fun w' => tick_done w' tb ⟨⟨ct, cs, src, del⟩, who, 2, a, b, l0, h0, phase⟩ a a)
    clear e0 hu0 hs
    go_enter Try.func87, Try.ntmps87
    go_wp2_with fail
    go_region_held3 (fun w' => (∀ o, w'.cell? ⟨tb, o, none⟩ = (#[.int .i64 ct, .int .i64 cs, .int .i64 src, .int .i64 del, .int .i64 who, .int .i64 2, .int .i64 a, .int .i64 b, .int .i64 l0, .int .i64 h0, .int .i64 phase] : Array Value)[o]?))
      (first | exact fun o => blk_cell S2.blk o | exact fun o => blk_cell S1.blk o | exact fun o => blk_cell (blk_drew HS0.out.blk) o)
      (first | (go_at_call 85; refine (lay_number _ ct cs src del ht1 hs1 0 (by omega) n HN.out).mono ?_; rintro e w1 ⟨rfl, q1⟩; have S1 := HS0.out.drew.ext q1) | (go_at_call 65; refine ((S1.cast (HP.star_comm _ _)).call (HSw.out _)).mono ?_; rintro e w2 ⟨_, ⟨rfl, rfl⟩, S2'⟩; have S2 := S2'.cast (HP.star_comm _ _)))
    have HS2 := Lib.hid S2
    clear hrc hrf; obtain ⟨hrc, hrf⟩ := blk_S (S2).blk; simp only [TickS.row] at hrc; have hbt := blk_lt (S2).blk
    clear S2 S2' S1 q1
    go_wp2_with (first | (go_at_call 83; refine (tick_point _ a).mono ?_; rintro e w4 ⟨rfl, q4⟩; have HS4 := Lib.hid (HS2.out.ext q4); clear hrc hrf q4) | (go_at_call 82; refine (HS4.out.call (HDn.out _)).mono ?_; rintro e w5 ⟨_, ⟨rfl, rfl⟩, S5⟩; have HS5 := Lib.hid S5; clear S5))
    go_end0
    exact ⟨_, ⟨rfl, rfl⟩, HS5.out⟩
  · have e0 : TickS.swp n ⟨⟨ct, cs, src, del⟩, who, 2, a, b, l0, h0, phase⟩ m = ((⟨⟨ct, cs, src, del⟩, who, 2, a, b, l0, h0, phase⟩ : TickS), m.put who 2 (2 * n + ct + 0) (m.at (2 * n + ct + 0)) false) := by
      unfold TickS.swp; rw [if_neg (by simp), if_neg (by simp), if_pos rfl]; exact if_neg hs
    rw [e0]
    have HSw := Lib.hid (fun w' => swapNo_tri w' p m who a (a + 1) (2 * n + ct + 0) hk hlog hs)
    clear e0 hu0 hs
    go_enter Try.func87, Try.ntmps87
    go_wp2_with fail
    go_region_held3 (fun w' => (∀ o, w'.cell? ⟨tb, o, none⟩ = (#[.int .i64 ct, .int .i64 cs, .int .i64 src, .int .i64 del, .int .i64 who, .int .i64 2, .int .i64 a, .int .i64 b, .int .i64 l0, .int .i64 h0, .int .i64 phase] : Array Value)[o]?))
      (first | exact fun o => blk_cell S2.blk o | exact fun o => blk_cell S1.blk o | exact fun o => blk_cell (blk_drew HS0.out.blk) o)
      (first | (go_at_call 85; refine (lay_number _ ct cs src del ht1 hs1 0 (by omega) n HN.out).mono ?_; rintro e w1 ⟨rfl, q1⟩; have S1 := HS0.out.drew.ext q1) | (go_at_call 65; refine ((S1.cast (HP.star_comm _ _)).call (HSw.out _)).mono ?_; rintro e w2 ⟨_, ⟨rfl, rfl⟩, S2'⟩; have S2 := S2'.cast (HP.star_comm _ _)))
    have HS2 := Lib.hid S2
    clear S2 S2' S1 q1
    go_wp2
    go_end0
    exact ⟨_, ⟨rfl, rfl⟩, HS2.out⟩

end Go.Proofs.Ytkcimjcmlibgpaa
