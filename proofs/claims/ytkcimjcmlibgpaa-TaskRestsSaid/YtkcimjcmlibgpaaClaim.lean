/-
  Package claim: what a Claim is; its place; it goes on to the next place; it looks at a word. Conditions: the cells fit the layout; the thread is there; the log is short.
-/
import Derived.Test.YtkcimjcmlibgpaaSx
import Derived.Deep.QuietTactic
import Derived.BigQuiet
import Derived.Deep.RegionHeld3
namespace Go.Proofs.Ytkcimjcmlibgpaa
open Go.RowKit

structure ClaimS where
  cf : Cf
  who : Nat
  k : Nat
  guard : Int
  word : Wd
  phase : Int

def ClaimS.row (c : ClaimS) : Array Value := #[.int .i64 c.cf.t, .int .i64 c.cf.s, .int .i64 c.cf.src, .int .i64 c.cf.del, .int .i64 c.who, .int .i64 c.k, .int .i64 c.guard, .int .i64 c.word.st, .int .i64 c.word.en, .int .i64 c.word.gen, .int .i64 c.word.lo, .int .i64 c.word.hi, .int .i64 c.phase]
def claimP (cb : Nat) (c : ClaimS) : HP := blkP cb c.row 132
def ClaimS.slot (c : ClaimS) : Nat := c.who * c.cf.s + c.k
/-- It goes on to the next place. -/
def ClaimS.pass (c : ClaimS) : ClaimS := if c.k + 1 = c.cf.s then { c with guard := -1, phase := 2 } else { c with guard := -1, k := c.k + 1 }
/-- It looks at a place's word. -/
def ClaimS.look (c : ClaimS) (x : Int) : ClaimS :=
  if 8191 ≤ (unpk x).gen then ({ c with word := unpk x } : ClaimS).pass
  else if (unpk x).st = 0 then { c with word := unpk x, phase := 1 }
  else if (unpk x).st = 2 then { c with word := unpk x, guard := 0 }
  else ({ c with word := unpk x } : ClaimS).pass

theorem slot_bound {c : ClaimS} {n : Nat} (hn : n = c.cf.t * c.cf.s) (hw : c.who < c.cf.t) (hk : c.k < c.cf.s) : c.slot < n := by
  unfold ClaimS.slot
  rw [hn]
  calc c.who * c.cf.s + c.k < c.who * c.cf.s + c.cf.s := by omega
    _ = (c.who + 1) * c.cf.s := (Nat.succ_mul _ _).symm
    _ ≤ c.cf.t * c.cf.s := Nat.mul_le_mul_right _ hw

theorem claim_slot (w : World) (cb : Nat) (c : ClaimS) (h : Blk w cb c.row 132) (hs : c.cf.s ≤ 64) (hw : c.who ≤ 64) (hk : c.k ≤ 64) :
    Calls Try.prog 74 #[.pointer (some ⟨cb, 0, none⟩)] w fun e w' => e = .returned (.int .i64 (c.slot : Int)) ∧ Frm [] w w' := by
  have hbt := blk_lt h
  have HB := Lib.hid h
  obtain ⟨hrc, hrf⟩ := blk_S h
  obtain ⟨⟨ct, cs, src, del⟩, who, k, guard, ⟨st, en, gen, lo, hi⟩, phase⟩ := c
  simp only [ClaimS.row, ClaimS.slot] at *
  clear h
  have hml := mul_le who cs hw hs
  have hsw : IntKind.i64.wrap (((who * cs : Nat) : Int) + (k : Int)) = ((who * cs + k : Nat) : Int) := (w64 (by omega) (by omega)).trans (by omega)
  have HF := Lib.hid (fun w' => lay_first w' ct cs src del hs who hw)
  generalize who * cs = P at *
  go_enter Try.func74, Try.ntmps74
  go_wp2_with fail
  go_region_held3 (fun w' => (∀ o, w'.cell? ⟨cb, o, none⟩ = (#[.int .i64 ct, .int .i64 cs, .int .i64 src, .int .i64 del, .int .i64 who, .int .i64 k, .int .i64 guard, .int .i64 st, .int .i64 en, .int .i64 gen, .int .i64 lo, .int .i64 hi, .int .i64 phase] : Array Value)[o]?))
    (first | exact fun o => blk_cell (blk_frm (blk_drew HB.out) q1 (by simp)) o | exact fun o => blk_cell (blk_drew HB.out) o)
    (first | (go_at_call 88; refine (HF.out _).mono ?_; rintro e w1 ⟨rfl, q1⟩))
  go_wp2
  go_ret
  exact ⟨rfl, (Frm.drew _ _).tr q1⟩

theorem claim_pass (w : World) (cb : Nat) (c : ClaimS) (hs : c.cf.s ≤ 64) (hk : c.k ≤ 64) :
    Tri w 81 #[.pointer (some ⟨cb, 0, none⟩)] (claimP cb c) fun e R => e = .returned (.tuple #[]) ∧ R = claimP cb c.pass := by
  refine Tri.walk fun F S0 => ?_
  have HS0 := Lib.hid S0
  have hbt := blk_lt S0.blk1
  obtain ⟨hrc, hrf⟩ := blk_S S0.blk1
  obtain ⟨⟨ct, cs, src, del⟩, who, k, guard, ⟨st, en, gen, lo, hi⟩, phase⟩ := c
  simp only [ClaimS.row] at hrc
  simp only at hs hk
  clear S0
  have hkw : IntKind.i64.wrap ((k : Int) + 1) = (k : Int) + 1 := w64 (by omega) (by omega)
  by_cases hc : k + 1 = cs
  · have e1 : ClaimS.pass ⟨⟨ct, cs, src, del⟩, who, k, guard, ⟨st, en, gen, lo, hi⟩, phase⟩ = ⟨⟨ct, cs, src, del⟩, who, k, -1, ⟨st, en, gen, lo, hi⟩, 2⟩ := by unfold ClaimS.pass; rw [if_pos hc]
    rw [e1]
    have hcI : ((k : Int) + 1 == (cs : Int)) = true := by simpa using (show (k : Int) + 1 = (cs : Int) by omega)
    clear hc
    go_enter Try.func81, Try.ntmps81
    go_wp2_with fail
    go_region
    go_wp2
    refine bodyPost_ret (results_none rfl _ _ _) rfl ⟨_, ⟨rfl, rfl⟩, ?_⟩
    refine (((HS0.out.set1 6 (.int .i64 (-1))).drew).set1 12 (.int .i64 2)).cast ?_
    simp [claimP, ClaimS.row]
  · have e1 : ClaimS.pass ⟨⟨ct, cs, src, del⟩, who, k, guard, ⟨st, en, gen, lo, hi⟩, phase⟩ = ⟨⟨ct, cs, src, del⟩, who, k + 1, -1, ⟨st, en, gen, lo, hi⟩, phase⟩ := by unfold ClaimS.pass; rw [if_neg hc]
    rw [e1]
    have hcI : ((k : Int) + 1 == (cs : Int)) = false := by simpa using (show ¬ (k : Int) + 1 = (cs : Int) by omega)
    go_enter Try.func81, Try.ntmps81
    go_wp2_with fail
    go_region
    go_wp2
    go_end0
    refine ⟨_, ⟨rfl, rfl⟩, ?_⟩
    refine (((HS0.out.set1 6 (.int .i64 (-1))).drew).set1 5 (.int .i64 ((k : Int) + 1))).cast ?_
    simp [claimP, ClaimS.row]

/-- Five cells stored: the others are as they were. -/
theorem set5_S {w : World} {b : Nat} {c : Array Value} {t : TypeId} {v1 v2 v3 v4 v5 : Value} (h : Blk w b c t) :
    (∀ o, o < 7 → (((((w.setCell ⟨b, 7, none⟩ v1).setCell ⟨b, 8, none⟩ v2).setCell ⟨b, 9, none⟩ v3).setCell ⟨b, 10, none⟩ v4).setCell ⟨b, 11, none⟩ v5).cell? ⟨b, o, none⟩ = c[o]?) ∧
    (∀ o, (((((w.setCell ⟨b, 7, none⟩ v1).setCell ⟨b, 8, none⟩ v2).setCell ⟨b, 9, none⟩ v3).setCell ⟨b, 10, none⟩ v4).setCell ⟨b, 11, none⟩ v5).frozen? ⟨b, o, none⟩ = false) := by
  have h5 := blk_set (blk_set (blk_set (blk_set (blk_set h 7 v1) 8 v2) 9 v3) 10 v4) 11 v5
  refine ⟨fun o ho => (blk_cell h5 o).trans ?_, fun o => blk_free h5 o⟩
  rw [Array.getElem?_setIfInBounds_ne (by omega), Array.getElem?_setIfInBounds_ne (by omega), Array.getElem?_setIfInBounds_ne (by omega), Array.getElem?_setIfInBounds_ne (by omega), Array.getElem?_setIfInBounds_ne (by omega)]

set_option maxHeartbeats 4000000 in
theorem claim_look (w : World) (cb p n : Nat) (c : ClaimS) (m : MemS) (hf : Fits c.cf n m) (hwho : c.who < c.cf.t) (hk : c.k < c.cf.s) (hlog : m.log.length < 1099511627776) :
    Tri w 80 #[.pointer (some ⟨cb, 0, none⟩), .pointer (some ⟨p, 0, none⟩)] (claimP cb c * memP p m)
      fun e R => e = .returned (.tuple #[]) ∧ R = claimP cb (c.look (m.at c.slot)) * memP p (m.ld c.who c.slot) := by
  refine Tri.walk fun F S0 => ?_
  have hsl := slot_bound hf.hn hwho hk
  have hlen := hf.len
  have ht1 := hf.t1
  have hs1 := hf.s1
  have hle := hf.le
  have HS0 := Lib.hid S0
  have hu0 := (S0.cast (HP.star_comm _ _)).u64
  have HSl := Lib.hid (fun w' (h : Blk w' cb c.row 132) => claim_slot w' cb c h hs1 (by omega) (by omega))
  have HLd := Lib.hid (fun w' => load_tri w' p m c.who c.slot (by omega) hlog)
  have HUn := Lib.hid (fun w' => word_unpack w' (m.at c.slot) (hu0 _).1 (hu0 _).2)
  have HPs := Lib.hid (fun w' c' (h1 : c'.cf = c.cf) (h2 : c'.k = c.k) => claim_pass w' cb c' (by rw [h1]; exact hs1) (by rw [h2]; omega))
  obtain ⟨hrc, hrf⟩ := blk_S (S0).blk; simp only [ClaimS.row] at hrc; have hbt := blk_lt (S0).blk
  generalize c.slot = sl at *
  generalize hX : m.at sl = X at *
  obtain ⟨⟨ct, cs, src, del⟩, who, k, guard, ⟨st, en, gen, lo, hi⟩, phase⟩ := c
  simp only at hrc hwho hk HSl HLd HPs
  clear S0 hu0 hf
  unfold ClaimS.look
  generalize hU : unpk X = U at HUn ⊢
  obtain ⟨us, ue, ug, ul, uh⟩ := U
  simp only at HUn ⊢
  obtain ⟨c', hc'⟩ : ∃ c', (if 8191 ≤ ug then ClaimS.pass ⟨⟨ct, cs, src, del⟩, who, k, guard, ⟨us, ue, ug, ul, uh⟩, phase⟩ else if us = 0 then ⟨⟨ct, cs, src, del⟩, who, k, guard, ⟨us, ue, ug, ul, uh⟩, 1⟩ else if us = 2 then ⟨⟨ct, cs, src, del⟩, who, k, 0, ⟨us, ue, ug, ul, uh⟩, phase⟩ else ClaimS.pass ⟨⟨ct, cs, src, del⟩, who, k, guard, ⟨us, ue, ug, ul, uh⟩, phase⟩) = c' := ⟨_, rfl⟩
  rw [hc']
  have HC := Lib.hid hc'
  clear hc'
  go_enter Try.func80, Try.ntmps80
  go_wp2_with fail
  have B0 : Blk w.drew cb #[.int .i64 ct, .int .i64 cs, .int .i64 src, .int .i64 del, .int .i64 who, .int .i64 k, .int .i64 guard, .int .i64 st, .int .i64 en, .int .i64 gen, .int .i64 lo, .int .i64 hi, .int .i64 phase] 132 := HS0.out.drew.blk
  go_region_held3 (fun w' => (∀ o, o < 7 → w'.cell? ⟨cb, o, none⟩ = (#[.int .i64 ct, .int .i64 cs, .int .i64 src, .int .i64 del, .int .i64 who, .int .i64 k, .int .i64 guard, .int .i64 st, .int .i64 en, .int .i64 gen, .int .i64 lo, .int .i64 hi, .int .i64 phase] : Array Value)[o]?) ∧ (∀ o, w'.frozen? ⟨cb, o, none⟩ = false))
    (first | with_reducible exact ⟨fun o _ => blk_cell B0 o, fun o => blk_free B0 o⟩ | with_reducible exact ⟨fun o _ => blk_cell B1 o, fun o => blk_free B1 o⟩ | with_reducible exact ⟨fun o _ => blk_cell B2 o, fun o => blk_free B2 o⟩ | with_reducible exact ⟨fun o _ => blk_cell B3 o, fun o => blk_free B3 o⟩ | with_reducible exact ⟨fun o _ => blk_cell B4 o, fun o => blk_free B4 o⟩ | with_reducible exact set5_S B4)
    (first | (go_at_call 74; refine (HSl.out _ (blk_drew HS0.out.blk)).mono ?_; rintro e w1 ⟨rfl, q1⟩; have S1 := HS0.out.drew.ext q1; have B1 : Blk w1 cb #[.int .i64 ct, .int .i64 cs, .int .i64 src, .int .i64 del, .int .i64 who, .int .i64 k, .int .i64 guard, .int .i64 st, .int .i64 en, .int .i64 gen, .int .i64 lo, .int .i64 hi, .int .i64 phase] 132 := S1.blk) | (go_at_call 30; refine (lay_word _ ct cs src del sl).mono ?_; rintro e w2 ⟨rfl, q2⟩; have S2 := S1.ext q2; have B2 : Blk w2 cb #[.int .i64 ct, .int .i64 cs, .int .i64 src, .int .i64 del, .int .i64 who, .int .i64 k, .int .i64 guard, .int .i64 st, .int .i64 en, .int .i64 gen, .int .i64 lo, .int .i64 hi, .int .i64 phase] 132 := S2.blk) | (go_at_call 63; refine ((S2.cast (HP.star_comm _ _)).call (HLd.out _)).mono ?_; rintro e w3 ⟨_, ⟨rfl, rfl⟩, S3'⟩; have S3 := S3'.cast (HP.star_comm _ _); have B3 : Blk w3 cb #[.int .i64 ct, .int .i64 cs, .int .i64 src, .int .i64 del, .int .i64 who, .int .i64 k, .int .i64 guard, .int .i64 st, .int .i64 en, .int .i64 gen, .int .i64 lo, .int .i64 hi, .int .i64 phase] 132 := S3.blk) | (go_at_call 29; refine (HUn.out _).mono ?_; rintro e w4 ⟨rfl, q4⟩; have S4 := S3.ext q4; have B4 : Blk w4 cb #[.int .i64 ct, .int .i64 cs, .int .i64 src, .int .i64 del, .int .i64 who, .int .i64 k, .int .i64 guard, .int .i64 st, .int .i64 en, .int .i64 gen, .int .i64 lo, .int .i64 hi, .int .i64 phase] 132 := S4.blk; have cx := fun o => blk_cell B4 o))
  have S5 := ((((((S4.set 7 (.int .i64 us)).set 8 (.int .i64 ue)).set 9 (.int .i64 ug)).set 10 (.int .i64 ul)).set 11 (.int .i64 uh))).cast (show _ = claimP cb ⟨⟨ct, cs, src, del⟩, who, k, guard, ⟨us, ue, ug, ul, uh⟩, phase⟩ * memP p (m.ld who sl) by unfold MemS.ld; rw [hX]; simp [claimP, ClaimS.row])
  have HS5 := Lib.hid S5
  clear S1 S2 S3 S3' S4 S5 B0 B1 B2 B3 B4 q1 q2 q4 cx hX hrc hrf hbt
  generalize (((((w4.setCell ⟨cb, 7, none⟩ (.int .i64 us)).setCell ⟨cb, 8, none⟩ (.int .i64 ue)).setCell ⟨cb, 9, none⟩ (.int .i64 ug)).setCell ⟨cb, 10, none⟩ (.int .i64 ul)).setCell ⟨cb, 11, none⟩ (.int .i64 uh)) = W5 at HS5 ⊢
  obtain ⟨hrc, hrf⟩ := blk_S (HS5.out).blk; simp only [ClaimS.row] at hrc; have hbt := blk_lt (HS5.out).blk
  have HP := Lib.hid (fun w' => HPs.out w' ⟨⟨ct, cs, src, del⟩, who, k, guard, ⟨us, ue, ug, ul, uh⟩, phase⟩ rfl rfl)
  by_cases h1 : 8191 ≤ ug
  · rw [if_pos h1] at HC
    go_wp2_with (go_at_call 81; refine (HS5.out.call (HP.out _)).mono ?_; rintro e w6 ⟨_, ⟨rfl, rfl⟩, S6⟩; have HS6 := Lib.hid S6; clear S6)
    go_end0
    exact ⟨_, ⟨rfl, by rw [← HC.out]⟩, HS6.out⟩
  · rw [if_neg h1] at HC
    by_cases h2 : us = 0
    · rw [if_pos h2] at HC
      go_wp2_with fail
      go_end0
      refine ⟨_, ⟨rfl, by rw [← HC.out]⟩, (HS5.out.set 12 (.int .i64 1)).cast ?_⟩
      simp [claimP, ClaimS.row]
    · rw [if_neg h2] at HC
      by_cases h3 : us = 2
      · rw [if_pos h3] at HC
        go_wp2_with fail
        go_end0
        refine ⟨_, ⟨rfl, by rw [← HC.out]⟩, (HS5.out.set 6 (.int .i64 0)).cast ?_⟩
        simp [claimP, ClaimS.row]
      · rw [if_neg h3] at HC
        go_wp2_with (go_at_call 81; refine (HS5.out.call (HP.out _)).mono ?_; rintro e w6 ⟨_, ⟨rfl, rfl⟩, S6⟩; have HS6 := Lib.hid S6; clear S6)
        go_end0
        exact ⟨_, ⟨rfl, by rw [← HC.out]⟩, HS6.out⟩

end Go.Proofs.Ytkcimjcmlibgpaa
