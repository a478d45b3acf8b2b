/-
  stackyardlaw11.GetRow returns true. No condition.
-/
import Derived.Test.YtkcimjcmlibgpaaRunD
namespace Go.Proofs.Ytkcimjcmlibgpaa
open Go.RowKit

set_option maxRecDepth 100000 in
set_option maxHeartbeats 4000000 in
theorem getRow_walk (w : World) (threads : Int) (_ : I64 threads) (slots : Int) (_ : I64 slots) (who : Int) (_ : I64 who) (lv : Value) (l : List Thg) (hl : LstT w lv l) (hu : ∀ x ∈ l, U64 x.value) (bv : Value) (bl : List Bool) (hb : LstB w bv bl) :
    Calls Try.prog 3 #[.int .i64 threads, .int .i64 slots, .int .i64 who, lv, bv] w fun e w' => e = .returned (.bool true) ∧ Frm [] w w' := by
  obtain ⟨ao, cap, rfl, _⟩ := Lst.shape (show Lst 6 Thg.vals Thg.zero w lv l from hl)
  obtain ⟨bo, bcap, rfl, hbc⟩ := Lst.shape hb
  by_cases h64 : (64 : Int) < (l.length : Int)
  · clear hl hu hbc hb
    go_enter Try.func3, Try.ntmps3
    go_wp2_with (go_at_call 13; refine (law_head _).mono ?_; rintro e w1 ⟨rfl, q1⟩; have HQ1 := Lib.hid q1; clear q1)
    go_ret
    exact ⟨rfl, HQ1.out⟩
  by_cases h30 : (30 : Int) < (bl.length : Int)
  · clear hl hu hbc hb
    go_enter Try.func3, Try.ntmps3
    go_wp2_with (go_at_call 13; refine (law_head _).mono ?_; rintro e w1 ⟨rfl, q1⟩; have HQ1 := Lib.hid q1; clear q1)
    go_ret
    exact ⟨rfl, HQ1.out⟩
  have HL := Lib.hid hl
  have HU := Lib.hid hu
  have HBc := Lib.hid hbc
  clear hl hu hbc hb
  have c1 := conf_t threads slots 0 0
  have c2 := conf_s threads slots 0 0
  have HCf := Lib.hid (fun w => law_conf w threads slots 0 0)
  obtain ⟨cf, hcf⟩ : ∃ c, confC threads slots 0 0 = c := ⟨_, rfl⟩
  rw [hcf] at c1 c2 HCf
  clear hcf
  obtain ⟨ct, cs, src, del⟩ := cf
  simp only at c1 c2 HCf
  obtain ⟨c10, c11⟩ := c1
  obtain ⟨c20, c21⟩ := c2
  obtain ⟨n, hn⟩ : ∃ n, n = ct * cs := ⟨_, rfl⟩
  have hn16 : n ≤ 16 := by rw [hn]; exact Nat.mul_le_mul c11 c21
  have hn0 : 1 ≤ n := by rw [hn]; exact Nat.mul_le_mul c10 c20
  have HN := Lib.hid hn
  clear hn
  have hct : ¬ ct = 0 := by omega
  have hw1 := who_rem who ct c10
  have hw2 := who_lt who ct c10
  obtain ⟨t, ht⟩ : ∃ t, whoN who ct = t := ⟨_, rfl⟩
  rw [ht] at hw1 hw2
  have hw3 : IntKind.i64.wrap (t : Int) = (t : Int) := w64 (by omega) (by omega)
  clear ht
  go_enter Try.func3, Try.ntmps3
  go_wp2_with (first | (go_at_call 13; refine (law_head _).mono ?_; rintro e w1 ⟨rfl, q1⟩; have HQ1 := Lib.hid q1; clear q1) | (go_at_call 14; refine (HCf.out _).mono ?_; rintro e w2 ⟨rfl, q2⟩; have HQ2 := Lib.hid q2; clear q2))
  have HB := Lib.hid (blk_new w2 #[.int .i64 ct, .int .i64 cs, .int .i64 src, .int .i64 del] 27)
  have HQ0 := Lib.hid ((HQ1.out.tr HQ2.out).tr (Frm.alloc [] w2 (.cells #[.int .i64 ct, .int .i64 cs, .int .i64 src, .int .i64 del] 27)))
  have hbt0 := blk_lt HB.out
  clear HQ1 HQ2 HCf
  generalize w2.alloc (.cells #[.int .i64 ct, .int .i64 cs, .int .i64 src, .int .i64 del] 27) = W0 at HB HQ0 hbt0 ⊢
  generalize w2.heap.size = cb at HB hbt0 ⊢
  clear hw1 hw3 hct
  refine (cells_st (St.emp (Frm.refl [] W0)) n ct cs src del _ l (Lst.ext HL.out HQ0.out) HU.out HN.out c10 (by omega) c20 (by omega)).mono ?_
  rintro e w3 ⟨p, rfl, S3⟩
  have HS3 := Lib.hid S3
  obtain ⟨hrc, hrf⟩ := blk_S (blk_frm HB.out (S3).frm (by simp)); have hbt := Nat.lt_of_lt_of_le hbt0 (S3).frm.size
  clear S3
  have hfits := cellsT_fits ⟨ct, cs, src, del⟩ n l HN.out c10 (show ct ≤ 64 by omega) c20 (show cs ≤ 64 by omega)
  have hlen : (cellsT n ct l).cells.length = 2 * n + 2 * ct := cellsT_len n ct l
  have hlog := cellsT_log n ct l
  have hhz := cellsT_rest n ct l
  have hu0 := HS3.out.u64
  simp only at hfits
  generalize cellsT n ct l = m0 at *
  have HF := Lib.hid hfits
  have HW := Lib.hid (words_u64 hu0 n (by omega))
  have HU0 := Lib.hid hu0
  have hwl := words_len m0 n (by omega)
  have hlb : m0.log.length ≤ 32 := by omega
  clear hlog
  clear hfits hhz hu0
  go_wp2_with (first | (go_at_call 17; refine (words_st HS3.out HF.out).mono ?_; rintro e w4 ⟨g1, cap1, rfl, S4⟩; have HS4 := Lib.hid S4; clear hrc hrf; obtain ⟨hrc, hrf⟩ := blk_S (blk_frm HB.out (S4).frm (by simp)); have hbt := Nat.lt_of_lt_of_le hbt0 (S4).frm.size; clear S4) | (go_at_call 16; refine (row_st HS4.out hwl (by omega) HW.out).mono ?_; rintro e w5 ⟨g2, cap2, rfl, S5⟩; have HS5 := Lib.hid S5; clear hrc hrf; obtain ⟨hrc, hrf⟩ := blk_S (blk_frm HB.out (S5).frm (by simp)); have hbt := Nat.lt_of_lt_of_le hbt0 (S5).frm.size; clear S5))
  obtain ⟨R0, hR0⟩ : ∃ R, R = rowW (m0.words n) := ⟨_, rfl⟩
  have hRn : R0.length ≤ 16 := by have := rowW_len (m0.words n); rw [hR0]; omega
  have hWin : Win R0 0 R0.length (rowW (m0.words n)) := by rw [← hR0]; exact Win.all R0
  have HWin := Lib.hid hWin
  rw [← hR0] at HS5 ⊢
  clear hR0 hWin
  have HSr := Lib.hid (HS5.out.cast (show _ = memP p m0 * (ownP 3 1 (.slice (some ⟨g2, 0, none⟩) R0.length cap2) R0.length (rvals R0)) * (ownP 43 1 (.slice (some ⟨g1, 0, none⟩) n cap1) n (wvals ((m0).words n)) * HP.emp) by ac_rfl)).dropR
  have hcap := (own_cap ((HSr.out.cast (HP.star_comm _ _)).own)).1
  have hcap2 := (own_cap ((HSr.out.cast (HP.star_comm _ _)).own)).2
  unfold maxLen at hcap2
  clear HS3 HS4 HS5 hrc hrf
  go_wp2_with fail
  go_loopw [13, 46] (fun r i wq => ∃ k : Nat, k ≤ bl.length ∧ i = .int .i64 k ∧ ∃ off ln cp m o, r = .slice (some ⟨g2, o, none⟩) ln cp ∧ (0 < ln → o = off) ∧ ln ≤ cp ∧ cp ≤ cap2 ∧ Fits ⟨ct, cs, src, del⟩ n m ∧ m.log.length ≤ 32 + k * 40 ∧ Win R0 off ln (rowW (m.words n)) ∧
    St W0 wq (memP p m * ownP 3 1 (.slice (some ⟨g2, 0, none⟩) R0.length cap2) R0.length (rvals R0))) (fun _ i _ => bl.length - (intOf i).toNat)
  case atStart => exact ⟨0, Nat.zero_le _, rfl, 0, R0.length, cap2, m0, 0, rfl, fun _ => rfl, hcap, Nat.le_refl _, HF.out, by omega, HWin.out, HSr.out⟩
  case round =>
    obtain ⟨k, hk, rfl, off, ln, cp, m, o, rfl, hoo, hln, hcp, hf, hlg, hwin, hS⟩ := hrel
    have HSk := Lib.hid hS
    have HFk := Lib.hid hf
    have HWk := Lib.hid hwin
    obtain ⟨hrc, hrf⟩ := blk_S (blk_frm HB.out (hS).frm (by simp)); have hbt := Nat.lt_of_lt_of_le hbt0 (hS).frm.size
    have hlnr := hwin.le
    have hlnb : off + ln ≤ 16 := by omega
    have hclen : m.cells.length = 2 * n + 2 * ct := hf.len
    clear hS hf hwin
    by_cases hkl : k < bl.length
    · obtain ⟨a, rfl, hab, hac⟩ := HBc.out k hkl
      have hcb : wr.cell? (a.add k) = some (.bool (bl.getD k false)) := by
        have h := hac 0 (by decide)
        rw [Nat.mul_one] at h
        exact (World.cell?_of_block (by rw [blk_add]; exact (HQ0.out.tr HSk.out.frm).block _ hab (by simp))).trans h
      have hk0 : (0 : Int) ≤ (k : Int) := Int.natCast_nonneg k
      have hk1 : (k : Int) < (bl.length : Int) := by omega
      generalize bl.getD k false = right at hcb
      have HEnd := Lib.hid (fun w => law_end w right)
      have hen : (right = false ∧ (if right = true then (1 : Int) else 0) = 0) ∨ (right = true ∧ (if right = true then (1 : Int) else 0) = 1) := by cases right <;> simp
      generalize (if right = true then (1 : Int) else 0) = en at HEnd hen
      have HEn := Lib.hid hen
      clear hen
      go_wp2_with fail
      go_region_held3 (fun w' => (∀ o, w'.cell? ⟨cb, o, none⟩ = (#[.int .i64 ct, .int .i64 cs, .int .i64 src, .int .i64 del] : Array Value)[o]?))
        (first | exact fun o => blk_cell (blk_drew (blk_frm HB.out (HSk.out).frm (by simp))) o | exact fun o => blk_cell (blk_frm HB.out S6.frm (by simp)) o)
        (first | (go_at_call 19; refine (HEnd.out _).mono ?_; rintro e _ ⟨rfl, rfl⟩) | (go_at_call 18; refine (getNew_st (HSk.out).drew ct cs t n src del en k (by omega) (by omega) HN.out hn0).mono ?_; rintro e w6 ⟨gb, rfl, S6⟩))
      have HS6 := Lib.hid (S6.cast (show _ = getP gb (get0 ⟨ct, cs, src, del⟩ t n en k) * memP p m * ownP 3 1 (.slice (some ⟨g2, 0, none⟩) R0.length cap2) R0.length (rvals R0) by ac_rfl))
      have hen2 : en = 0 ∨ en = 1 := by rcases HEn.out with ⟨_, h⟩ | ⟨_, h⟩ <;> simp [h]
      have hfr : Fresh n (get0 ⟨ct, cs, src, del⟩ t n en k) := ⟨rfl, rfl, rfl⟩
      obtain ⟨K, hK⟩ := alone_K m hfr HFk.out hw2
      have HOk := Lib.hid (runG_ok (get0_ok ⟨ct, cs, src, del⟩ t n en k m HFk.out hw2 hen2) HSk.out.u64)
      have HKw := Lib.hid (hK.win HWk.out hen2)
      have HPa := Lib.hid (fun w' => get_alone w' ct cs n src del (by omega) (by omega) HN.out)
      have hRLs := HSk.out.dropR
      clear hK hfr hen2 S6 hRLs hrc hrf hcb
      go_wp2_with fail
      go_loopw [17] (fun i wq => ∃ j : Nat, j ≤ 2 * n + 5 ∧ i = .int .i64 j ∧ St W0 wq (getP gb (runG n (get0 ⟨ct, cs, src, del⟩ t n en k) m j).1 * memP p (runG n (get0 ⟨ct, cs, src, del⟩ t n en k) m j).2 * ownP 3 1 (.slice (some ⟨g2, 0, none⟩) R0.length cap2) R0.length (rvals R0))) (fun i _ => 2 * n + 5 - (intOf i).toNat)
      case atStart => exact ⟨0, Nat.zero_le _, rfl, HS6.out⟩
      case round =>
        obtain ⟨j, hj, rfl, hS⟩ := hrel
        have HSj := Lib.hid hS
        obtain ⟨hrc, hrf⟩ := blk_S (blk_frm HB.out (hS).frm (by simp)); have hbt := Nat.lt_of_lt_of_le hbt0 (hS).frm.size
        clear hS
        by_cases hjK : j < 2 * n + 5
        · have hjl := runG_log_le n (get0 ⟨ct, cs, src, del⟩ t n en k) m j
          have hjI : (j : Int) < 2 * (n : Int) + 5 := by omega
          go_wp2_with (first | (go_at_call 20; refine (HPa.out _).mono ?_; rintro e w7 ⟨rfl, q7⟩; have HQ7 := Lib.hid q7; clear hrc hrf; obtain ⟨hrc, hrf⟩ := blk_S (blk_frm HB.out ((HSj.out.ext q7)).frm (by simp)); have hbt := Nat.lt_of_lt_of_le hbt0 ((HSj.out.ext q7)).frm.size; clear q7) | (go_at_call 21; refine (getStep_st (HSj.out.ext HQ7.out) (HOk.out j).1 (by omega)).mono ?_; rintro e w8 ⟨rfl, S8⟩; have HS8 := Lib.hid S8; clear S8))
          go_roundw
          case rel => exact ⟨j + 1, by omega, by go_num, HS8.out⟩
          case measure => simp [intOf]; omega
        · obtain rfl : j = 2 * n + 5 := by omega
          clear hjK hj
          have hjl := runG_log_le n (get0 ⟨ct, cs, src, del⟩ t n en k) m (2 * n + 5)
          have hok := (HOk.out (2 * n + 5)).1.fits
          have hcf : (runG n (get0 ⟨ct, cs, src, del⟩ t n en k) m (2 * n + 5)).1.cf = ⟨ct, cs, src, del⟩ := runG_cf _ _ _ _
          rw [hcf] at hok
          clear hcf
          generalize runG n (get0 ⟨ct, cs, src, del⟩ t n en k) m (2 * n + 5) = r at *
          obtain ⟨g, m'⟩ := r
          simp only at hjl hok HKw HSj
          have hcl' : m'.cells.length = 2 * n + 2 * ct := hok.len
          have HG := Lib.hid (fun w' (q : Frm [] wr w') => (HSj.out.ext q).cast (show _ = getP gb g * (memP p m' * ownP 3 1 (.slice (some ⟨g2, 0, none⟩) R0.length cap2) R0.length (rvals R0)) by ac_rfl))
          have HM := Lib.hid (fun w' (q : Frm [] wr w') => (HSj.out.ext q).cast (show _ = memP p m' * ownP 3 1 (.slice (some ⟨g2, 0, none⟩) R0.length cap2) R0.length (rvals R0) * getP gb g by ac_rfl))
          have HPp := Lib.hid (fun w' (q : Frm [] wr w') => phase_st (HG.out w' q))
          have HVa := Lib.hid (fun w' (q : Frm [] wr w') => value_st (HG.out w' q))
          have HFk' := Lib.hid hok
          clear hok
          rcases HKw.out with ⟨hl0, hp, _, hwin'⟩ | ⟨z, hlp, hzn, hR, hp, hv, hwin'⟩
          · subst hl0
            rw [hp] at HPp
            have HW' := Lib.hid hwin'
            clear hwin' hp HVa
            go_wp2_with (first | (go_at_call 20; refine (HPa.out _).mono ?_; rintro e w7 ⟨rfl, q7⟩; have HQ7 := Lib.hid q7; clear q7) | (go_at_call 22; refine (HPp.out _ HQ7.out).mono ?_; rintro e _ ⟨rfl, rfl⟩))
            go_roundw
            case rel => exact ⟨k + 1, by omega, by go_num, off, 0, cp, m', _, rfl, fun h => absurd h (by omega), hln, hcp, HFk'.out, by omega, HW'.out, (HM.out _ HQ7.out).dropR⟩
            case measure => simp [intOf]; omega
          · obtain rfl : off = o := (hoo hlp).symm
            rw [hp] at HPp
            have hv' : g.value = m'.at (n + z) := hv
            rw [hv'] at HVa
            have HPv := Lib.hid (fun w' (q : Frm [] wr w') => peek_st ((HM.out w' q).cast (HP.star_assoc _ _ _)) (n + z) (by omega))
            have HR0 := Lib.hid (fun w' (q : Frm [] wr w') => own_slot ((HM.out w' q).cast (show _ = ownP 3 1 (.slice (some ⟨g2, 0, none⟩) R0.length cap2) R0.length (rvals R0) * (memP p m' * getP gb g) by ac_rfl)).own off (by omega))
            have HR1 := Lib.hid (fun w' (q : Frm [] wr w') => own_slot ((HM.out w' q).cast (show _ = ownP 3 1 (.slice (some ⟨g2, 0, none⟩) R0.length cap2) R0.length (rvals R0) * (memP p m' * getP gb g) by ac_rfl)).own (off + (ln - 1)) (by omega))
            have hl1 : IntKind.i64.wrap ((ln : Int) - 1) = ((ln - 1 : Nat) : Int) := (w64 (by omega) (by omega)).trans (by omega)
            have hl2 : (((ln - 1 : Nat) : Int)) < (ln : Int) := by omega
            have hl3 : (0 : Int) ≤ ((ln - 1 : Nat) : Int) := by omega
            have hl4 : (0 : Int) < (ln : Int) := by omega
            have hl5 : ¬ ln = 0 := by omega
            generalize m'.at (n + z) = V at *
            clear hp hv hv'
            rcases HEn.out with ⟨hr, he⟩ | ⟨hr, he⟩
            · subst hr
              have he' : (get0 ⟨ct, cs, src, del⟩ t n en k).en = 0 := he
              rw [if_pos he'] at hR hwin'
              rw [hR] at HR0
              have HW' := Lib.hid hwin'
              clear hR hwin' he he'
              by_cases hcp1 : cp = 1
              all_goals
                go_wp2_with (go_at_call 20; refine (HPa.out _).mono ?_; rintro e w7 ⟨rfl, q7⟩; have HQ7 := Lib.hid q7; clear hrc hrf; obtain ⟨hrc, hrf⟩ := blk_S (blk_frm HB.out ((HSj.out.ext q7)).frm (by simp)); have hbt := Nat.lt_of_lt_of_le hbt0 ((HSj.out.ext q7)).frm.size; have hc0 := HR0.out _ q7; have hc1 := HR1.out _ q7; clear q7)
                have HQw := Lib.hid (HQ0.out.tr (HSj.out.ext HQ7.out).frm)
                have HBw := Lib.hid (blk_frm HB.out (HSj.out.ext HQ7.out).frm (by simp))
                clear hc0 hc1
                go_region_held3 (fun w' => (∀ o, w'.cell? ⟨cb, o, none⟩ = (#[.int .i64 ct, .int .i64 cs, .int .i64 src, .int .i64 del] : Array Value)[o]?))
                  (first | exact fun o => blk_cell (blk_frm HBw.out p16 (by simp)) o | exact fun o => blk_cell (blk_drew HBw.out) o)
                  (first | (go_at_call 22; refine (HPp.out _ (HQ7.out.tr (Frm.drew _ _))).mono ?_; rintro e _ ⟨rfl, rfl⟩; have p15 := Frm.drew [] w7) | (go_at_call 23; refine (HVa.out _ (HQ7.out.tr p15)).mono ?_; rintro e _ ⟨rfl, rfl⟩) | (go_at_call 25; refine (lay_value _ ct cs src del (by omega) (by omega) z (by omega) n HN.out).mono ?_; rintro e w16 ⟨rfl, q16⟩; have p16 := p15.tr q16) | (go_at_call 24; refine (HPv.out _ (HQ7.out.tr p16)).mono ?_; rintro e _ ⟨rfl, rfl⟩))
                have p17 := HQ7.out.tr p16
                have HSn := Lib.hid ((HM.out _ p17).dropR)
                clear p15 p16 p17 q16 hrc hrf
                go_wp2
                go_roundw
                case rel => first | exact ⟨k + 1, by omega, by go_num, off + 1, ln - 1, cp - 1, m', off + 1, rfl, fun h => by omega, by omega, by omega, HFk'.out, by omega, HW'.out, HSn.out⟩ | exact ⟨k + 1, by omega, by go_num, off + 1, ln - 1, 0, m', off, rfl, fun h => by omega, by omega, by omega, HFk'.out, by omega, HW'.out, HSn.out⟩
                case measure => simp [intOf]; omega
            · subst hr
              have he' : (get0 ⟨ct, cs, src, del⟩ t n en k).en = 1 := he
              have he2 : ¬ (get0 ⟨ct, cs, src, del⟩ t n en k).en = 0 := by omega
              rw [if_neg he2] at hR hwin'
              rw [hR] at HR1
              have HW' := Lib.hid hwin'
              clear hR hwin' he he' he2
              go_wp2_with (go_at_call 20; refine (HPa.out _).mono ?_; rintro e w7 ⟨rfl, q7⟩; have HQ7 := Lib.hid q7; clear hrc hrf; obtain ⟨hrc, hrf⟩ := blk_S (blk_frm HB.out ((HSj.out.ext q7)).frm (by simp)); have hbt := Nat.lt_of_lt_of_le hbt0 ((HSj.out.ext q7)).frm.size; have hc0 := HR0.out _ q7; have hc1 := HR1.out _ q7; clear q7)
              have HQw := Lib.hid (HQ0.out.tr (HSj.out.ext HQ7.out).frm)
              have HBw := Lib.hid (blk_frm HB.out (HSj.out.ext HQ7.out).frm (by simp))
              clear hc0 hc1
              go_region_held3 (fun w' => (∀ o, w'.cell? ⟨cb, o, none⟩ = (#[.int .i64 ct, .int .i64 cs, .int .i64 src, .int .i64 del] : Array Value)[o]?))
                (first | exact fun o => blk_cell (blk_frm HBw.out p16 (by simp)) o | exact fun o => blk_cell (blk_drew HBw.out) o)
                (first | (go_at_call 22; refine (HPp.out _ (HQ7.out.tr (Frm.drew _ _))).mono ?_; rintro e _ ⟨rfl, rfl⟩; have p15 := Frm.drew [] w7) | (go_at_call 23; refine (HVa.out _ (HQ7.out.tr p15)).mono ?_; rintro e _ ⟨rfl, rfl⟩) | (go_at_call 25; refine (lay_value _ ct cs src del (by omega) (by omega) z (by omega) n HN.out).mono ?_; rintro e w16 ⟨rfl, q16⟩; have p16 := p15.tr q16) | (go_at_call 24; refine (HPv.out _ (HQ7.out.tr p16)).mono ?_; rintro e _ ⟨rfl, rfl⟩))
              have p17 := HQ7.out.tr p16
              have HSn := Lib.hid ((HM.out _ p17).dropR)
              clear p15 p16 p17 q16 hrc hrf
              go_wp2
              go_roundw
              case rel => exact ⟨k + 1, by omega, by go_num, off, ln - 1, cp, m', _, rfl, fun h => by omega, by omega, by omega, HFk'.out, by omega, HW'.out, HSn.out⟩
              case measure => simp [intOf]; omega
    · obtain rfl : k = bl.length := by omega
      go_wp2
      go_ret
      exact ⟨rfl, HQ0.out.tr HSk.out.frm⟩

end Go.Proofs.Ytkcimjcmlibgpaa
