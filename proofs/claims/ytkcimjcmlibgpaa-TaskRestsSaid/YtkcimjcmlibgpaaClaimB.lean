/-
  Package claim: a step as a function; a new one; what it tells. Conditions: the cells fit the layout; the thread is there; the log is short.
-/
import Derived.Test.YtkcimjcmlibgpaaClaim
namespace Go.Proofs.Ytkcimjcmlibgpaa
open Go.RowKit

/-- A step of a Claim. -/
def ClaimS.step (n : Nat) (c : ClaimS) (m : MemS) : ClaimS × MemS :=
  if c.phase ≠ 0 then (c, m)
  else if c.guard < 0 then (c.look (m.at c.slot), m.ld c.who c.slot)
  else if m.at (2 * n + c.guard.toNat) = (c.slot : Int) + 1 then (c.pass, m.ld c.who (2 * n + c.guard.toNat))
  else (if c.guard + 1 = (c.cf.t : Int) then { c with guard := c.guard + 1, phase := 1 } else { c with guard := c.guard + 1 }, m.ld c.who (2 * n + c.guard.toNat))

/-- What holds of a Claim under way. -/
structure ClaimS.Ok (c : ClaimS) : Prop where
  who : c.who < c.cf.t
  k : c.k < c.cf.s
  g0 : -1 ≤ c.guard
  g1 : c.phase = 0 → c.guard < c.cf.t
  ph : c.phase = 0 ∨ c.phase = 1 ∨ c.phase = 2
  wd : c.guard ≥ 0 ∨ c.phase = 1 → c.word.Ok ∧ c.word.gen < 8191 ∧ (c.word.st = 0 ∨ c.word.st = 2)

theorem claim_over (w : World) (cb p : Nat) (c : ClaimS) (m : MemS) (h : c.phase = 1 ∨ c.phase = 2) :
    Tri w 71 #[.pointer (some ⟨cb, 0, none⟩), .pointer (some ⟨p, 0, none⟩)] (claimP cb c * memP p m)
      fun e R => e = .returned (.int .i64 c.phase) ∧ R = claimP cb c * memP p m := by
  refine Tri.walk fun F S0 => ?_
  have HS0 := Lib.hid S0
  obtain ⟨hrc, hrf⟩ := blk_S S0.blk
  obtain ⟨⟨ct, cs, src, del⟩, who, k, guard, ⟨st, en, gen, lo, hi⟩, phase⟩ := c
  simp only [ClaimS.row] at hrc
  simp only at h
  clear S0
  rcases h with rfl | rfl
  all_goals
    go_enter Try.func71, Try.ntmps71
    go_wp2
    go_ret
    exact ⟨_, ⟨rfl, rfl⟩, HS0.out⟩

set_option maxHeartbeats 4000000 in
theorem claim_looks (w : World) (cb p n : Nat) (c : ClaimS) (m : MemS) (hf : Fits c.cf n m) (ho : c.Ok) (hlog : m.log.length < 1099511627776) (hph : c.phase = 0) (hg : c.guard < 0) :
    Tri w 71 #[.pointer (some ⟨cb, 0, none⟩), .pointer (some ⟨p, 0, none⟩)] (claimP cb c * memP p m)
      fun e R => e = .returned (.int .i64 (c.look (m.at c.slot)).phase) ∧ R = claimP cb (c.look (m.at c.slot)) * memP p (m.ld c.who c.slot) := by
  refine Tri.walk fun F S0 => ?_
  have HS0 := Lib.hid S0
  have HLk := Lib.hid (fun w' => claim_look w' cb p n c m hf ho.who ho.k hlog)
  generalize c.look (m.at c.slot) = c' at *
  generalize m.ld c.who c.slot = m' at *
  obtain ⟨hrc, hrf⟩ := blk_S (S0).blk; simp only [ClaimS.row] at hrc; have hbt := blk_lt (S0).blk
  obtain ⟨⟨ct, cs, src, del⟩, who, k, guard, ⟨st, en, gen, lo, hi⟩, phase⟩ := c
  simp only at hrc hph hg HLk HS0
  subst hph
  clear S0 hf ho
  go_enter Try.func71, Try.ntmps71
  go_wp2_with (go_at_call 80; refine (HS0.out.call1 (HLk.out _)).mono ?_; rintro e w1 ⟨_, ⟨rfl, rfl⟩, S1⟩; have HS1 := Lib.hid S1; clear hrc hrf hbt; have hc12 := (blk_cell S1.blk 12).trans (show c'.row[12]? = some (.int .i64 c'.phase) from rfl); clear S1)
  go_ret
  exact ⟨_, ⟨rfl, rfl⟩, HS1.out⟩

set_option maxHeartbeats 4000000 in
theorem claim_guards (w : World) (cb p n : Nat) (c : ClaimS) (m : MemS) (hf : Fits c.cf n m) (ho : c.Ok) (hlog : m.log.length < 1099511627776) (hph : c.phase = 0) (g : Nat) (hg : c.guard = (g : Int)) :
    Tri w 71 #[.pointer (some ⟨cb, 0, none⟩), .pointer (some ⟨p, 0, none⟩)] (claimP cb c * memP p m)
      fun e R => e = .returned (.int .i64 (c.step n m).1.phase) ∧ R = claimP cb (c.step n m).1 * memP p (c.step n m).2 := by
  have e0 : c.step n m = if m.at (2 * n + g) = (c.slot : Int) + 1 then (c.pass, m.ld c.who (2 * n + g)) else (if (g : Int) + 1 = (c.cf.t : Int) then { c with guard := (g : Int) + 1, phase := 1 } else { c with guard := (g : Int) + 1 }, m.ld c.who (2 * n + g)) := by
    unfold ClaimS.step
    rw [if_neg (by omega), if_neg (by omega), hg, Int.toNat_natCast]
  obtain ⟨cm, hcm⟩ : ∃ cm, c.step n m = cm := ⟨_, rfl⟩
  rw [hcm] at e0 ⊢
  clear hcm
  refine Tri.walk fun F S0 => ?_
  have HS0 := Lib.hid S0
  have hsl := slot_bound hf.hn ho.who ho.k
  have hle := hf.le
  have hlen := hf.len
  have ht1 := hf.t1
  have hs1 := hf.s1
  have hgt := ho.g1 hph
  have hkk := ho.k
  have hww := ho.who
  rw [hg] at hgt
  have HN := Lib.hid hf.hn
  have HSl := Lib.hid (fun w' (h : Blk w' cb c.row 132) => claim_slot w' cb c h hs1 (by omega) (by omega))
  have HLd := Lib.hid (fun w' => load_tri w' p m c.who (2 * n + g) (by omega) hlog)
  have HPs := Lib.hid (fun w' => claim_pass w' cb c hs1 (by omega))
  have hX := (S0.cast (HP.star_comm _ _)).u64 (2 * n + g)
  obtain ⟨hrc, hrf⟩ := blk_S (S0).blk; simp only [ClaimS.row] at hrc; have hbt := blk_lt (S0).blk
  generalize c.slot = sl at *
  generalize hM : m.ld c.who (2 * n + g) = m' at *
  have hM' : m.put c.who 0 (2 * n + g) (m.at (2 * n + g)) true = m' := hM
  rw [hM'] at HLd
  generalize m.at (2 * n + g) = X at *
  generalize c.pass = cp at *
  obtain ⟨⟨ct, cs, src, del⟩, who, k, guard, ⟨st, en, gen, lo, hi⟩, phase⟩ := c
  simp only at hrc hph hg HSl HLd HPs HS0 hgt ht1 hs1 e0 HN
  subst hph hg
  have hsw1 : IntKind.i64.wrap ((sl : Int) + 1) = (sl : Int) + 1 := w64 (by omega) (by omega)
  have hsw2 : IntKind.u64.wrap ((sl : Int) + 1) = (sl : Int) + 1 := IntWalk.u64_in _ (by omega)
  have hgw : IntKind.i64.wrap ((g : Int) + 1) = (g : Int) + 1 := w64 (by omega) (by omega)
  have hg0 : ¬ (g : Int) < 0 := by omega
  have hgd : decide ((g : Int) < 0) = false := by simp
  clear S0 hf ho hM hM' hX
  have HE := Lib.hid e0
  clear e0
  have B0 : Blk w.drew cb #[.int .i64 ct, .int .i64 cs, .int .i64 src, .int .i64 del, .int .i64 who, .int .i64 k, .int .i64 g, .int .i64 st, .int .i64 en, .int .i64 gen, .int .i64 lo, .int .i64 hi, .int .i64 0] 132 := HS0.out.drew.blk
  by_cases hXs : X = (sl : Int) + 1
  · have hXb : (X == (sl : Int) + 1) = true := by simpa using hXs
    rw [if_pos hXs] at HE
    clear hXs
    go_enter Try.func71, Try.ntmps71
    go_wp2_with fail
    go_region_held3 (fun w' => (∀ o, w'.cell? ⟨cb, o, none⟩ = (#[.int .i64 ct, .int .i64 cs, .int .i64 src, .int .i64 del, .int .i64 who, .int .i64 k, .int .i64 g, .int .i64 st, .int .i64 en, .int .i64 gen, .int .i64 lo, .int .i64 hi, .int .i64 0] : Array Value)[o]?))
      (first | with_reducible exact fun o => blk_cell B0 o | with_reducible exact fun o => blk_cell B1 o | with_reducible exact fun o => blk_cell B2 o | with_reducible exact fun o => blk_cell B3 o)
      (first | (go_at_call 28; refine (lay_hazard _ ct cs src del ht1 hs1 g (by omega) n HN.out).mono ?_; rintro e w1 ⟨rfl, q1⟩; have S1 := HS0.out.drew.ext q1; have B1 := blk_frm B0 q1 (by simp)) | (go_at_call 63; refine ((S1.cast (HP.star_comm _ _)).call (HLd.out _)).mono ?_; rintro e w2 ⟨_, ⟨rfl, rfl⟩, S2'⟩; have S2 := S2'.cast (HP.star_comm _ _); have B2 : Blk w2 cb #[.int .i64 ct, .int .i64 cs, .int .i64 src, .int .i64 del, .int .i64 who, .int .i64 k, .int .i64 g, .int .i64 st, .int .i64 en, .int .i64 gen, .int .i64 lo, .int .i64 hi, .int .i64 0] 132 := S2.blk) | (go_at_call 74; refine (HSl.out _ S2.blk).mono ?_; rintro e w3 ⟨rfl, q3⟩; have S3 := S2.ext q3; have B3 := blk_frm B2 q3 (by simp)))
    have HS3 := Lib.hid S3
    clear hrc hrf; obtain ⟨hrc, hrf⟩ := blk_S (S3).blk; simp only [ClaimS.row] at hrc; have hbt := blk_lt (S3).blk
    clear S1 S2 S2' S3 B0 B1 B2 B3 q1 q3
    go_wp2_with (go_at_call 81; refine (HS3.out.call (HPs.out _)).mono ?_; rintro e w6 ⟨_, ⟨rfl, rfl⟩, S6⟩; have HS6 := Lib.hid S6; clear hrc hrf hbt; have hc12 := (blk_cell S6.blk 12).trans (show cp.row[12]? = some (.int .i64 cp.phase) from rfl); clear S6)
    go_ret
    exact ⟨_, ⟨by rw [HE.out]; rfl, by rw [HE.out]⟩, HS6.out⟩
  · have hXb : (X == (sl : Int) + 1) = false := by simpa using hXs
    rw [if_neg hXs] at HE
    clear hXs
    by_cases hgc : (g : Int) + 1 = (ct : Int)
    · rw [if_pos hgc] at HE
      have hgb : ((g : Int) + 1 == (ct : Int)) = true := by simpa using hgc
      clear hgc
      go_enter Try.func71, Try.ntmps71
      go_wp2_with fail
      go_region_held3 (fun w' => (∀ o, w'.cell? ⟨cb, o, none⟩ = (#[.int .i64 ct, .int .i64 cs, .int .i64 src, .int .i64 del, .int .i64 who, .int .i64 k, .int .i64 g, .int .i64 st, .int .i64 en, .int .i64 gen, .int .i64 lo, .int .i64 hi, .int .i64 0] : Array Value)[o]?))
        (first | with_reducible exact fun o => blk_cell B0 o | with_reducible exact fun o => blk_cell B1 o | with_reducible exact fun o => blk_cell B2 o | with_reducible exact fun o => blk_cell B3 o)
        (first | (go_at_call 28; refine (lay_hazard _ ct cs src del ht1 hs1 g (by omega) n HN.out).mono ?_; rintro e w1 ⟨rfl, q1⟩; have S1 := HS0.out.drew.ext q1; have B1 := blk_frm B0 q1 (by simp)) | (go_at_call 63; refine ((S1.cast (HP.star_comm _ _)).call (HLd.out _)).mono ?_; rintro e w2 ⟨_, ⟨rfl, rfl⟩, S2'⟩; have S2 := S2'.cast (HP.star_comm _ _); have B2 : Blk w2 cb #[.int .i64 ct, .int .i64 cs, .int .i64 src, .int .i64 del, .int .i64 who, .int .i64 k, .int .i64 g, .int .i64 st, .int .i64 en, .int .i64 gen, .int .i64 lo, .int .i64 hi, .int .i64 0] 132 := S2.blk) | (go_at_call 74; refine (HSl.out _ S2.blk).mono ?_; rintro e w3 ⟨rfl, q3⟩; have S3 := S2.ext q3; have B3 := blk_frm B2 q3 (by simp)))
      have HS3 := Lib.hid S3
      clear hrc hrf; obtain ⟨hrc, hrf⟩ := blk_S (S3).blk; simp only [ClaimS.row] at hrc; have hbt := blk_lt (S3).blk
      clear S1 S2 S2' S3 B0 B1 B2 B3 q1 q3
      go_wp2_with fail
      go_region
      go_wp2
      go_ret
      refine ⟨_, ⟨by rw [HE.out]; rfl, rfl⟩, (((HS3.out.set 6 (.int .i64 ((g : Int) + 1))).drew).set 12 (.int .i64 1)).cast ?_⟩
      rw [HE.out]
      simp [claimP, ClaimS.row]
    · rw [if_neg hgc] at HE
      have hgb : ((g : Int) + 1 == (ct : Int)) = false := by simpa using hgc
      clear hgc
      go_enter Try.func71, Try.ntmps71
      go_wp2_with fail
      go_region_held3 (fun w' => (∀ o, w'.cell? ⟨cb, o, none⟩ = (#[.int .i64 ct, .int .i64 cs, .int .i64 src, .int .i64 del, .int .i64 who, .int .i64 k, .int .i64 g, .int .i64 st, .int .i64 en, .int .i64 gen, .int .i64 lo, .int .i64 hi, .int .i64 0] : Array Value)[o]?))
        (first | with_reducible exact fun o => blk_cell B0 o | with_reducible exact fun o => blk_cell B1 o | with_reducible exact fun o => blk_cell B2 o | with_reducible exact fun o => blk_cell B3 o)
        (first | (go_at_call 28; refine (lay_hazard _ ct cs src del ht1 hs1 g (by omega) n HN.out).mono ?_; rintro e w1 ⟨rfl, q1⟩; have S1 := HS0.out.drew.ext q1; have B1 := blk_frm B0 q1 (by simp)) | (go_at_call 63; refine ((S1.cast (HP.star_comm _ _)).call (HLd.out _)).mono ?_; rintro e w2 ⟨_, ⟨rfl, rfl⟩, S2'⟩; have S2 := S2'.cast (HP.star_comm _ _); have B2 : Blk w2 cb #[.int .i64 ct, .int .i64 cs, .int .i64 src, .int .i64 del, .int .i64 who, .int .i64 k, .int .i64 g, .int .i64 st, .int .i64 en, .int .i64 gen, .int .i64 lo, .int .i64 hi, .int .i64 0] 132 := S2.blk) | (go_at_call 74; refine (HSl.out _ S2.blk).mono ?_; rintro e w3 ⟨rfl, q3⟩; have S3 := S2.ext q3; have B3 := blk_frm B2 q3 (by simp)))
      have HS3 := Lib.hid S3
      clear hrc hrf; obtain ⟨hrc, hrf⟩ := blk_S (S3).blk; simp only [ClaimS.row] at hrc; have hbt := blk_lt (S3).blk
      clear S1 S2 S2' S3 B0 B1 B2 B3 q1 q3
      go_wp2_with fail
      go_region
      go_wp2
      go_ret
      refine ⟨_, ⟨by rw [HE.out]; rfl, rfl⟩, ((HS3.out.set 6 (.int .i64 ((g : Int) + 1))).drew).cast ?_⟩
      rw [HE.out]
      simp [claimP, ClaimS.row]

/-- A step of a Claim. -/
theorem claim_step (w : World) (cb p n : Nat) (c : ClaimS) (m : MemS) (hf : Fits c.cf n m) (ho : c.Ok) (hlog : m.log.length < 1099511627776) :
    Tri w 71 #[.pointer (some ⟨cb, 0, none⟩), .pointer (some ⟨p, 0, none⟩)] (claimP cb c * memP p m)
      fun e R => e = .returned (.int .i64 (c.step n m).1.phase) ∧ R = claimP cb (c.step n m).1 * memP p (c.step n m).2 := by
  by_cases hp : c.phase = 0
  · by_cases hg : c.guard < 0
    · have e : c.step n m = (c.look (m.at c.slot), m.ld c.who c.slot) := by unfold ClaimS.step; rw [if_neg (by omega), if_pos hg]
      rw [e]
      exact claim_looks w cb p n c m hf ho hlog hp hg
    · exact claim_guards w cb p n c m hf ho hlog hp c.guard.toNat (by omega)
  · have e : c.step n m = (c, m) := by unfold ClaimS.step; rw [if_pos hp]
    rw [e]
    exact claim_over w cb p c m (ho.ph.resolve_left hp)

def claim0 (cf : Cf) (who : Nat) : ClaimS := ⟨cf, who, 0, -1, ⟨0, 0, 0, 0, 0⟩, 0⟩
theorem claim_new (w : World) (ct cs who : Nat) (src del : Int) :
    Calls Try.prog 67 #[.agg #[.int .i64 ct, .int .i64 cs, .int .i64 src, .int .i64 del], .int .i64 who] w fun e w' =>
      ∃ cb, e = .returned (.pointer (some ⟨cb, 0, none⟩)) ∧ w.heap.size ≤ cb ∧ Blk w' cb (claim0 ⟨ct, cs, src, del⟩ who).row 132 ∧ Frm [] w w' := by
  go_enter Try.func67, Try.ntmps67
  go_wp2
  go_ret
  refine ⟨w.heap.size + 1, rfl, by omega, ?_, (Frm.alloc _ _ _).tr (Frm.alloc _ _ _)⟩
  have h := blk_new (w.alloc (.cells #[.int .i64 ct, .int .i64 cs, .int .i64 src, .int .i64 del] 27)) (claim0 ⟨ct, cs, src, del⟩ who).row 132
  rw [size_al] at h
  exact h
theorem claim_phase (w : World) (cb : Nat) (c : ClaimS) (h : Blk w cb c.row 132) :
    Calls Try.prog 69 #[.pointer (some ⟨cb, 0, none⟩)] w fun e w' => e = .returned (.int .i64 c.phase) ∧ w = w' := by
  obtain ⟨hrc, hrf⟩ := blk_S h
  obtain ⟨⟨ct, cs, src, del⟩, who, k, guard, ⟨st, en, gen, lo, hi⟩, phase⟩ := c
  simp only [ClaimS.row] at *
  clear h
  go_enter Try.func69, Try.ntmps69
  go_wp2
  go_ret
  exact ⟨rfl, rfl⟩
theorem claim_word (w : World) (cb : Nat) (c : ClaimS) (h : Blk w cb c.row 132) :
    Calls Try.prog 75 #[.pointer (some ⟨cb, 0, none⟩)] w fun e w' => e = .returned (.agg #[.int .i64 c.word.st, .int .i64 c.word.en, .int .i64 c.word.gen, .int .i64 c.word.lo, .int .i64 c.word.hi]) ∧ Frm [] w w' := by
  have hbt := blk_lt h
  obtain ⟨hrc, hrf⟩ := blk_S h
  obtain ⟨⟨ct, cs, src, del⟩, who, k, guard, ⟨st, en, gen, lo, hi⟩, phase⟩ := c
  simp only [ClaimS.row] at *
  clear h
  go_enter Try.func75, Try.ntmps75
  go_wp2
  refine bodyPost_ret (v := .agg #[.int .i64 st, .int .i64 en, .int .i64 gen, .int .i64 lo, .int .i64 hi]) (by simp [results, Try.results75, go_sem]) rfl ⟨rfl, Frm.alloc _ _ _⟩

end Go.Proofs.Ytkcimjcmlibgpaa
