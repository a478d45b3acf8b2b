/-
  stackyardlaw11.GetStarts returns true. No condition.
-/
import Derived.Test.YtkcimjcmlibgpaaRunD
namespace Go.Proofs.Ytkcimjcmlibgpaa
open Go.RowKit

set_option maxRecDepth 100000 in
set_option maxHeartbeats 4000000 in
theorem getStarts_walk (w : World) (threads : Int) (_ : I64 threads) (slots : Int) (_ : I64 slots) (lv : Value) (l : List Thg) (hl : LstT w lv l) (hu : ∀ x ∈ l, U64 x.value) (right : Bool) (one : Int) (_ : I64 one) (two : Int) (_ : I64 two) :
    Calls Try.prog 5 #[.int .i64 threads, .int .i64 slots, lv, .bool right, .int .i64 one, .int .i64 two] w fun e w' => e = .returned (.bool true) ∧ Frm [] w w' := by
  obtain ⟨ao, cap, rfl, _⟩ := Lst.shape (show Lst 6 Thg.vals Thg.zero w lv l from hl)
  by_cases h64 : (64 : Int) < (l.length : Int)
  · clear hl hu
    go_enter Try.func5, Try.ntmps5
    go_wp2_with (go_at_call 13; refine (law_head _).mono ?_; rintro e w1 ⟨rfl, q1⟩; have HQ1 := Lib.hid q1; clear q1)
    go_ret
    exact ⟨rfl, HQ1.out⟩
  have HL := Lib.hid hl
  have HU := Lib.hid hu
  clear hl hu
  have c1 := conf_t threads slots 0 0
  have c2 := conf_s threads slots 0 0
  have HCf := Lib.hid (fun w => law_conf w threads slots 0 0)
  obtain ⟨cf, hcf⟩ : ∃ c, confC threads slots 0 0 = c := ⟨_, rfl⟩
  rw [hcf] at c1 c2 HCf
  clear hcf
  obtain ⟨ct, cs, src, del⟩ := cf
  simp only at c1 c2 HCf
  obtain ⟨c10, c11⟩ := c1
  obtain ⟨c20, c21⟩ := c2
  obtain ⟨n, hn⟩ : ∃ n, n = ct * cs := ⟨_, rfl⟩
  have hn16 : n ≤ 16 := by rw [hn]; exact Nat.mul_le_mul c11 c21
  have hn0 : 1 ≤ n := by rw [hn]; exact Nat.mul_le_mul c10 c20
  have HN := Lib.hid hn
  clear hn
  have HEnd := Lib.hid (fun w => law_end w right)
  have hen : (right = false ∧ (if right = true then (1 : Int) else 0) = 0) ∨ (right = true ∧ (if right = true then (1 : Int) else 0) = 1) := by cases right <;> simp
  generalize (if right = true then (1 : Int) else 0) = en at HEnd hen
  have HEn := Lib.hid hen
  clear hen
  have hct1 : IntKind.i64.wrap ((ct : Int) - 1) = ((ct - 1 : Nat) : Int) := (w64 (by omega) (by omega)).trans (by omega)
  go_enter Try.func5, Try.ntmps5
  go_wp2_with (first | (go_at_call 13; refine (law_head _).mono ?_; rintro e w1 ⟨rfl, q1⟩; have HQ1 := Lib.hid q1; clear q1) | (go_at_call 14; refine (HCf.out _).mono ?_; rintro e w2 ⟨rfl, q2⟩; have HQ2 := Lib.hid q2; clear q2))
  have HB := Lib.hid (blk_new w2 #[.int .i64 ct, .int .i64 cs, .int .i64 src, .int .i64 del] 27)
  have HQ0 := Lib.hid ((HQ1.out.tr HQ2.out).tr (Frm.alloc [] w2 (.cells #[.int .i64 ct, .int .i64 cs, .int .i64 src, .int .i64 del] 27)))
  have hbt0 := blk_lt HB.out
  clear HQ1 HQ2 HCf
  generalize w2.alloc (.cells #[.int .i64 ct, .int .i64 cs, .int .i64 src, .int .i64 del] 27) = W0 at HB HQ0 hbt0 ⊢
  generalize w2.heap.size = cb at HB hbt0 ⊢
  refine (cells_st (St.emp (Frm.refl [] W0)) n ct cs src del _ l (Lst.ext HL.out HQ0.out) HU.out HN.out c10 (by omega) c20 (by omega)).mono ?_
  rintro e w3 ⟨p1, rfl, S3⟩
  have HS3 := Lib.hid S3
  obtain ⟨hrc, hrf⟩ := blk_S (blk_frm HB.out (S3).frm (by simp)); have hbt := Nat.lt_of_lt_of_le hbt0 (S3).frm.size
  clear S3
  go_wp2_with fail
  refine (cells_st HS3.out n ct cs src del _ l (Lst.ext HL.out (HQ0.out.tr HS3.out.frm)) HU.out HN.out c10 (by omega) c20 (by omega)).mono ?_
  rintro e w4 ⟨p2, rfl, S4⟩
  have HS4 := Lib.hid (S4.cast (show _ = memP p1 (cellsT n ct l) * memP p2 (cellsT n ct l) * HP.emp by ac_rfl)).dropR
  clear hrc hrf; obtain ⟨hrc, hrf⟩ := blk_S (blk_frm HB.out (S4).frm (by simp)); have hbt := Nat.lt_of_lt_of_le hbt0 (S4).frm.size
  clear S4 HS3
  have HS3 := HS4
  have hfits := cellsT_fits ⟨ct, cs, src, del⟩ n l HN.out c10 (show ct ≤ 64 by omega) c20 (show cs ≤ 64 by omega)
  have hlen : (cellsT n ct l).cells.length = 2 * n + 2 * ct := cellsT_len n ct l
  have hlog := cellsT_log n ct l
  have hhz := cellsT_rest n ct l
  have hu0 := HS3.out.u64
  simp only at hfits
  generalize cellsT n ct l = m0 at *
  have HF := Lib.hid hfits
  have HW := Lib.hid (words_u64 hu0 n (by omega))
  have HU0 := Lib.hid hu0
  have hwl := words_len m0 n (by omega)
  have hlb : m0.log.length ≤ 32 := by omega
  clear hlog
  clear hhz hlen hwl
  have hen2 : en = 0 ∨ en = 1 := by rcases HEn.out with ⟨_, h⟩ | ⟨_, h⟩ <;> simp [h]
  obtain ⟨K1, hK1⟩ := alone_K (g0 := get0 ⟨ct, cs, src, del⟩ 0 n en one) m0 ⟨rfl, rfl, rfl⟩ hfits (show 0 < ct by omega)
  obtain ⟨K2, hK2⟩ := alone_K (g0 := get0 ⟨ct, cs, src, del⟩ (ct - 1) n en two) m0 ⟨rfl, rfl, rfl⟩ hfits (show ct - 1 < ct by omega)
  have HSame := Lib.hid (alone_same hK1 hK2 rfl rfl)
  have HOk1 := Lib.hid (runG_ok (get0_ok ⟨ct, cs, src, del⟩ 0 n en one m0 hfits (show 0 < ct by omega) hen2) hu0)
  have HOk2 := Lib.hid (runG_ok (get0_ok ⟨ct, cs, src, del⟩ (ct - 1) n en two m0 hfits (show ct - 1 < ct by omega) hen2) hu0)
  have HPa := Lib.hid (fun w' => get_alone w' ct cs n src del (by omega) (by omega) HN.out)
  clear hK1 hK2 hfits hu0 hen2 HW HU0 HF HS3
  go_wp2_with fail
  go_region_held3 (fun w' => (∀ o, w'.cell? ⟨cb, o, none⟩ = (#[.int .i64 ct, .int .i64 cs, .int .i64 src, .int .i64 del] : Array Value)[o]?))
    (first | exact fun o => blk_cell (blk_drew (blk_frm HB.out (HS4.out).frm (by simp))) o | exact fun o => blk_cell (blk_frm HB.out S6.frm (by simp)) o)
    (first | (go_at_call 19; refine (HEnd.out _).mono ?_; rintro e _ ⟨rfl, rfl⟩) | (go_at_call 18; refine (getNew_st (HS4.out).drew ct cs 0 n src del en one (by omega) (by omega) HN.out hn0).mono ?_; rintro e w6 ⟨gb, rfl, S6⟩))
  have HS6 := Lib.hid S6
  clear hrc hrf; obtain ⟨hrc, hrf⟩ := blk_S (blk_frm HB.out (S6).frm (by simp)); have hbt := Nat.lt_of_lt_of_le hbt0 (S6).frm.size
  clear S6 HS4
  go_wp2_with fail
  go_region_held3 (fun w' => (∀ o, w'.cell? ⟨cb, o, none⟩ = (#[.int .i64 ct, .int .i64 cs, .int .i64 src, .int .i64 del] : Array Value)[o]?))
    (first | exact fun o => blk_cell (blk_drew (blk_frm HB.out HS6.out.frm (by simp))) o | exact fun o => blk_cell (blk_frm HB.out S7.frm (by simp)) o)
    (first | (go_at_call 19; refine (HEnd.out _).mono ?_; rintro e _ ⟨rfl, rfl⟩) | (go_at_call 18; refine (getNew_st (HS6.out).drew ct cs (ct - 1) n src del en two (by omega) (by omega) HN.out hn0).mono ?_; rintro e w7 ⟨gc, rfl, S7⟩))
  have HS7 := Lib.hid (S7.cast (show _ = getP gb (get0 ⟨ct, cs, src, del⟩ 0 n en one) * memP p1 m0 * (getP gc (get0 ⟨ct, cs, src, del⟩ (ct - 1) n en two) * memP p2 m0) by ac_rfl))
  clear S7 hrc hrf HS6
  go_wp2_with fail
  go_loopw [18] (fun i wq => ∃ j : Nat, j ≤ 2 * n + 5 ∧ i = .int .i64 j ∧ St W0 wq (getP gb (runG n (get0 ⟨ct, cs, src, del⟩ 0 n en one) m0 j).1 * memP p1 (runG n (get0 ⟨ct, cs, src, del⟩ 0 n en one) m0 j).2 *
    (getP gc (runG n (get0 ⟨ct, cs, src, del⟩ (ct - 1) n en two) m0 j).1 * memP p2 (runG n (get0 ⟨ct, cs, src, del⟩ (ct - 1) n en two) m0 j).2))) (fun i _ => 2 * n + 5 - (intOf i).toNat)
  case atStart => exact ⟨0, Nat.zero_le _, rfl, HS7.out⟩
  case round =>
    obtain ⟨j, hj, rfl, hS⟩ := hrel
    have HSj := Lib.hid hS
    obtain ⟨hrc, hrf⟩ := blk_S (blk_frm HB.out (hS).frm (by simp)); have hbt := Nat.lt_of_lt_of_le hbt0 (hS).frm.size
    clear hS
    by_cases hjK : j < 2 * n + 5
    · have hj1 := runG_log_le n (get0 ⟨ct, cs, src, del⟩ 0 n en one) m0 j
      have hj2 := runG_log_le n (get0 ⟨ct, cs, src, del⟩ (ct - 1) n en two) m0 j
      have hjI : (j : Int) < 2 * (n : Int) + 5 := by omega
      go_wp2_with (go_at_call 20; refine (HPa.out _).mono ?_; rintro e w8 ⟨rfl, q8⟩; have HQ8 := Lib.hid q8; clear hrc hrf; obtain ⟨hrc, hrf⟩ := blk_S (blk_frm HB.out ((HSj.out.ext q8)).frm (by simp)); have hbt := Nat.lt_of_lt_of_le hbt0 ((HSj.out.ext q8)).frm.size; clear q8)
      refine (getStep_st (HSj.out.ext HQ8.out) (HOk1.out j).1 (by omega)).mono ?_
      rintro e w9 ⟨rfl, S9⟩
      have HS9 := Lib.hid (S9.cast (HP.star_comm _ _))
      clear S9
      go_wp2_with fail
      refine (getStep_st HS9.out (HOk2.out j).1 (by omega)).mono ?_
      rintro e w10 ⟨rfl, S10⟩
      have HS10 := Lib.hid (S10.cast (HP.star_comm _ _))
      clear S10
      go_wp2_with fail
      go_roundw
      case rel => exact ⟨j + 1, by omega, by go_num, HS10.out⟩
      case measure => simp [intOf]; omega
    · obtain rfl : j = 2 * n + 5 := by omega
      clear hjK hj HS7
      have hf1 := (HOk1.out (2 * n + 5)).1.fits
      have hf2 := (HOk2.out (2 * n + 5)).1.fits
      rw [show (runG n (get0 ⟨ct, cs, src, del⟩ 0 n en one) m0 (2 * n + 5)).1.cf = ⟨ct, cs, src, del⟩ from runG_cf _ _ _ _] at hf1
      rw [show (runG n (get0 ⟨ct, cs, src, del⟩ (ct - 1) n en two) m0 (2 * n + 5)).1.cf = ⟨ct, cs, src, del⟩ from runG_cf _ _ _ _] at hf2
      clear HOk1 HOk2
      generalize runG n (get0 ⟨ct, cs, src, del⟩ 0 n en one) m0 (2 * n + 5) = ra at *
      generalize runG n (get0 ⟨ct, cs, src, del⟩ (ct - 1) n en two) m0 (2 * n + 5) = rb at *
      obtain ⟨a, ma⟩ := ra
      obtain ⟨b, mb⟩ := rb
      simp only at HSj HSame hf1 hf2
      obtain ⟨e1, e2, e3, e4⟩ := HSame.out
      have hl1 : ma.cells.length = 2 * n + 2 * ct := hf1.len
      have hw1 := words_len ma n (by omega)
      have HF1 := Lib.hid hf1
      have HF2 := Lib.hid hf2
      have HE := Lib.hid e1
      have HE2 := Lib.hid (And.intro e2 e4)
      clear e1 e2 e4 HSame hf1 hf2
      go_wp2_with (go_at_call 20; refine (HPa.out _).mono ?_; rintro e w8 ⟨rfl, q8⟩; have HQ8 := Lib.hid q8; clear hrc hrf; obtain ⟨hrc, hrf⟩ := blk_S (blk_frm HB.out ((HSj.out.ext q8)).frm (by simp)); have hbt := Nat.lt_of_lt_of_le hbt0 ((HSj.out.ext q8)).frm.size; clear q8)
      have S8 := (HSj.out.ext HQ8.out).cast (show _ = memP p1 ma * (getP gb a * (getP gc b * memP p2 mb)) by ac_rfl)
      refine (words_st S8 HF1.out).mono ?_
      rintro e w11 ⟨x1, cx1, rfl, S11⟩
      have HS11 := Lib.hid (S11.cast (show _ = memP p2 mb * (ownP 43 1 (.slice (some ⟨x1, 0, none⟩) n cx1) n (wvals ((ma).words n)) * (getP gb a * (getP gc b * memP p1 ma))) by ac_rfl))
      clear hrc hrf; obtain ⟨hrc, hrf⟩ := blk_S (blk_frm HB.out (S11).frm (by simp)); have hbt := Nat.lt_of_lt_of_le hbt0 (S11).frm.size
      clear S11 S8
      go_wp2_with fail
      refine (words_st HS11.out HF2.out).mono ?_
      rintro e w12 ⟨x2, cx2, rfl, S12⟩
      have HS12 := Lib.hid S12
      have HA := Lib.hid S12.own
      have HC := Lib.hid (S12.cast (show _ = ownP 43 1 (.slice (some ⟨x1, 0, none⟩) n cx1) n (wvals ((ma).words n)) * (ownP 43 1 (.slice (some ⟨x2, 0, none⟩) n cx2) n (wvals ((mb).words n)) * (memP p2 mb * (getP gb a * (getP gc b * memP p1 ma)))) by ac_rfl)).own
      rw [← HE.out] at HA
      have HGa := Lib.hid (S12.cast (show _ = getP gb a * (ownP 43 1 (.slice (some ⟨x2, 0, none⟩) n cx2) n (wvals ((mb).words n)) * (memP p2 mb * (ownP 43 1 (.slice (some ⟨x1, 0, none⟩) n cx1) n (wvals ((ma).words n)) * (getP gc b * memP p1 ma)))) by ac_rfl))
      have HGb := Lib.hid (S12.cast (show _ = getP gc b * (ownP 43 1 (.slice (some ⟨x2, 0, none⟩) n cx2) n (wvals ((mb).words n)) * (memP p2 mb * (ownP 43 1 (.slice (some ⟨x1, 0, none⟩) n cx1) n (wvals ((ma).words n)) * (getP gb a * memP p1 ma)))) by ac_rfl))
      clear S12 hrc hrf
      go_wp2_with fail
      go_loopw [69] (fun i wq => ∃ j : Nat, j ≤ n ∧ i = .int .i64 j ∧ Frm [] w12 wq) (fun i _ => n - (intOf i).toNat)
      case atStart => exact ⟨0, Nat.zero_le _, rfl, Frm.refl _ _⟩
      case round =>
        obtain ⟨j, hj, rfl, hwq⟩ := hrel
        have HWq := Lib.hid hwq
        clear hwq
        by_cases hjn : j < n
        · have hj0 : (0 : Int) ≤ (j : Int) := by omega
          have hj1 : (j : Int) < (n : Int) := by omega
          have hca := own_word (own_frm HA.out HWq.out (by simp)) j (by omega)
          have hcc := own_word (own_frm HC.out HWq.out (by simp)) j (by omega)
          generalize (ma.words n).getD j 0 = X at hca hcc
          go_wp2_with fail
          go_region_held3 (fun w' => w'.cell? ⟨x1, j, none⟩ = some (.int .u64 X) ∧ w'.cell? ⟨x2, j, none⟩ = some (.int .u64 X)) (exact ⟨hcc, hca⟩) (fail)
          go_wp2
          go_roundw
          case rel => exact ⟨j + 1, by omega, by go_num, HWq.out.tr (Frm.drew _ _)⟩
          case measure => simp [intOf]; omega
        · obtain rfl : n = j := by omega
          clear hjn hj
          have HP1 := Lib.hid (phase_st (HGa.out.ext HWq.out))
          have HP2 := Lib.hid (phase_st (HGb.out.ext HWq.out))
          have HV1 := Lib.hid (value_st (HGa.out.ext HWq.out))
          have HV2 := Lib.hid (value_st (HGb.out.ext HWq.out))
          rw [← HE2.out.1] at HP2
          rw [← HE2.out.2] at HV2
          have HQw := Lib.hid ((HQ0.out.tr HS12.out.frm).tr HWq.out)
          generalize a.phase = PH at HP1 HP2 e3
          generalize a.value = VA at HV1 HV2
          have e5 : (PH != 0) = true := by simpa using e3
          have e6 : decide (PH = 0) = false := by simpa using e3
          go_wp2_with (first | (go_at_call 22; with_reducible refine HP1.out.mono ?_; rintro e _ ⟨rfl, rfl⟩) | (go_at_call 22; with_reducible refine HP2.out.mono ?_; rintro e _ ⟨rfl, rfl⟩) | (go_at_call 23; with_reducible refine HV1.out.mono ?_; rintro e _ ⟨rfl, rfl⟩) | (go_at_call 23; with_reducible refine HV2.out.mono ?_; rintro e _ ⟨rfl, rfl⟩))
          go_ret
          exact ⟨rfl, HQw.out⟩

end Go.Proofs.Ytkcimjcmlibgpaa
