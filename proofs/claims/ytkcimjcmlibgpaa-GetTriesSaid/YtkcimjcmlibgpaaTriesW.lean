/-
  stackyardlaw11.GetTries returns true. No condition.
-/
import Derived.Test.YtkcimjcmlibgpaaTries
namespace Go.Proofs.Ytkcimjcmlibgpaa
open Go.RowKit

set_option maxRecDepth 100000 in
set_option maxHeartbeats 4000000 in
theorem getTries_walk (w : World) (threads : Int) (_ : I64 threads) (slots : Int) (_ : I64 slots) (start : Int) (_ : I64 start) (right : Bool) (lv : Value) (l : List Thg) (hl : LstT w lv l) (hu : ∀ x ∈ l, U64 x.value) (times : Int) (_ : I64 times) :
    Calls Try.prog 6 #[.int .i64 threads, .int .i64 slots, .int .i64 start, .bool right, lv, .int .i64 times] w fun e w' => e = .returned (.bool true) ∧ Frm [] w w' := by
  obtain ⟨ao, cap, rfl, _⟩ := Lst.shape (show Lst 6 Thg.vals Thg.zero w lv l from hl)
  by_cases h64 : (64 : Int) < (l.length : Int)
  · clear hl hu
    go_enter Try.func6, Try.ntmps6
    go_wp2_with (go_at_call 13; refine (law_head _).mono ?_; rintro e w1 ⟨rfl, q1⟩; have HQ1 := Lib.hid q1; clear q1)
    go_ret
    exact ⟨rfl, HQ1.out⟩
  have HL := Lib.hid hl
  have HU := Lib.hid hu
  clear hl hu
  have c1 := conf_t threads slots 0 0
  have c2 := conf_s threads slots 0 0
  have HCf := Lib.hid (fun w => law_conf w threads slots 0 0)
  obtain ⟨cf, hcf⟩ : ∃ c, confC threads slots 0 0 = c := ⟨_, rfl⟩
  rw [hcf] at c1 c2 HCf
  clear hcf
  obtain ⟨ct, cs, src, del⟩ := cf
  simp only at c1 c2 HCf
  obtain ⟨c10, c11⟩ := c1
  obtain ⟨c20, c21⟩ := c2
  obtain ⟨n, hn⟩ : ∃ n, n = ct * cs := ⟨_, rfl⟩
  have hn16 : n ≤ 16 := by rw [hn]; exact Nat.mul_le_mul c11 c21
  have hn0 : 1 ≤ n := by rw [hn]; exact Nat.mul_le_mul c10 c20
  have HN := Lib.hid hn
  clear hn
  have HEnd := Lib.hid (fun w => law_end w right)
  have hen : (right = false ∧ (if right = true then (1 : Int) else 0) = 0) ∨ (right = true ∧ (if right = true then (1 : Int) else 0) = 1) := by cases right <;> simp
  generalize (if right = true then (1 : Int) else 0) = en at HEnd hen
  have HEn := Lib.hid hen
  clear hen
  have hti := i64_7 times
  obtain ⟨tn, htn, htn7⟩ : ∃ tn : Nat, times % 8 = (tn : Int) ∧ tn ≤ 7 := ⟨(times % 8).toNat, by omega, by omega⟩
  rw [htn] at hti
  clear htn
  go_enter Try.func6, Try.ntmps6
  go_wp2_with (first | (go_at_call 13; refine (law_head _).mono ?_; rintro e w1 ⟨rfl, q1⟩; have HQ1 := Lib.hid q1; clear q1) | (go_at_call 14; refine (HCf.out _).mono ?_; rintro e w2 ⟨rfl, q2⟩; have HQ2 := Lib.hid q2; clear q2))
  have HB := Lib.hid (blk_new w2 #[.int .i64 ct, .int .i64 cs, .int .i64 src, .int .i64 del] 27)
  have HQ0 := Lib.hid ((HQ1.out.tr HQ2.out).tr (Frm.alloc [] w2 (.cells #[.int .i64 ct, .int .i64 cs, .int .i64 src, .int .i64 del] 27)))
  have hbt0 := blk_lt HB.out
  clear HQ1 HQ2 HCf
  generalize w2.alloc (.cells #[.int .i64 ct, .int .i64 cs, .int .i64 src, .int .i64 del] 27) = W0 at HB HQ0 hbt0 ⊢
  generalize w2.heap.size = cb at HB hbt0 ⊢
  refine (cells_st (St.emp (Frm.refl [] W0)) n ct cs src del _ l (Lst.ext HL.out HQ0.out) HU.out HN.out c10 (by omega) c20 (by omega)).mono ?_
  rintro e w3 ⟨p, rfl, S3⟩
  have HS3 := Lib.hid S3
  obtain ⟨hrc, hrf⟩ := blk_S (blk_frm HB.out (S3).frm (by simp)); have hbt := Nat.lt_of_lt_of_le hbt0 (S3).frm.size
  clear S3
  have hfits := cellsT_fits ⟨ct, cs, src, del⟩ n l HN.out c10 (show ct ≤ 64 by omega) c20 (show cs ≤ 64 by omega)
  have hlen : (cellsT n ct l).cells.length = 2 * n + 2 * ct := cellsT_len n ct l
  have hlog := cellsT_log n ct l
  have hhz := cellsT_rest n ct l
  have hu0 := HS3.out.u64
  simp only at hfits
  generalize cellsT n ct l = m0 at *
  have HF := Lib.hid hfits
  have HW := Lib.hid (words_u64 hu0 n (by omega))
  have HU0 := Lib.hid hu0
  have hwl := words_len m0 n (by omega)
  have hlb : m0.log.length ≤ 32 := by omega
  clear hlog
  have hh0 : m0.at (2 * n) = 0 := hhz (2 * n) (by omega)
  go_wp2_with (first | (go_at_call 17; refine (words_st HS3.out HF.out).mono ?_; rintro e w4 ⟨g1, cap1, rfl, S4⟩; have HS4 := Lib.hid S4; clear hrc hrf; obtain ⟨hrc, hrf⟩ := blk_S (blk_frm HB.out (S4).frm (by simp)); have hbt := Nat.lt_of_lt_of_le hbt0 (S4).frm.size; clear S4) | (go_at_call 16; refine (row_st HS4.out hwl (by omega) HW.out).mono ?_; rintro e w5 ⟨g2, cap2, rfl, S5⟩; have HS5 := Lib.hid S5; clear hrc hrf; obtain ⟨hrc, hrf⟩ := blk_S (blk_frm HB.out (S5).frm (by simp)); have hbt := Nat.lt_of_lt_of_le hbt0 (S5).frm.size; clear S5))
  obtain ⟨R0, hR0⟩ : ∃ R, R = rowW (m0.words n) := ⟨_, rfl⟩
  have hRn : R0.length ≤ 16 := by have := rowW_len (m0.words n); rw [hR0]; omega
  have hWin : Win R0 0 R0.length (rowW (m0.words n)) := by rw [← hR0]; exact Win.all R0
  rw [← hR0] at HS5 ⊢
  clear hR0
  obtain ⟨c0, hc0, hc1, hc2⟩ : ∃ c0 : Nat, min (tn : Int) (R0.length : Int) = (c0 : Int) ∧ c0 ≤ R0.length ∧ c0 ≤ 7 := ⟨min tn R0.length, by omega, by omega, by omega⟩
  rw [hc0]
  have hen2 : en = 0 ∨ en = 1 := by rcases HEn.out with ⟨_, h⟩ | ⟨_, h⟩ <;> simp [h]
  obtain ⟨T, t1, t2, t3, t4, t5⟩ := tries_run c0 (get0 ⟨ct, cs, src, del⟩ 0 n en start) m0 0 R0.length ⟨rfl, rfl, rfl⟩ rfl hfits hh0 hWin hc1 hen2
  have hT : T ≤ 300 := by
    have h1 : c0 * (2 * n + 3) ≤ 7 * 35 := Nat.mul_le_mul hc2 (by omega)
    omega
  have HOk := Lib.hid (runT_ok (n := n) (s := ⟨get0 ⟨ct, cs, src, del⟩ 0 n en start, m0, c0⟩) ⟨get0_ok ⟨ct, cs, src, del⟩ 0 n en start m0 hfits (show 0 < ct by omega) hen2, hu0⟩)
  have HLg := Lib.hid (fun k => runT_log (n := n) (s := ⟨get0 ⟨ct, cs, src, del⟩ 0 n en start, m0, c0⟩) k)
  have HCb := Lib.hid (fun k => runT_c (n := n) (s := ⟨get0 ⟨ct, cs, src, del⟩ 0 n en start, m0, c0⟩) k)
  have HCf2 := Lib.hid (fun k => runT_cf (n := n) (s := ⟨get0 ⟨ct, cs, src, del⟩ 0 n en start, m0, c0⟩) k)
  have HSu := Lib.hid (fun k => runT_succ n ⟨get0 ⟨ct, cs, src, del⟩ 0 n en start, m0, c0⟩ k)
  have HT2 := Lib.hid t2
  have HT5 := Lib.hid (And.intro t3 (And.intro t4 t5))
  clear t1 t2 t3 t4 t5 hfits hu0 hen2 hWin HW HU0 hh0 hc0 htn7 hhz
  go_region_held3 (fun w' => (∀ o, w'.cell? ⟨cb, o, none⟩ = (#[.int .i64 ct, .int .i64 cs, .int .i64 src, .int .i64 del] : Array Value)[o]?))
    (first | exact fun o => blk_cell (blk_drew (blk_frm HB.out (HS5.out).frm (by simp))) o | exact fun o => blk_cell (blk_frm HB.out S6.frm (by simp)) o)
    (first | (go_at_call 19; refine (HEnd.out _).mono ?_; rintro e _ ⟨rfl, rfl⟩) | (go_at_call 18; refine (getNew_st (HS5.out).drew ct cs 0 n src del en start (by omega) (by omega) HN.out hn0).mono ?_; rintro e w6 ⟨gb, rfl, S6⟩))
  have HS6 := Lib.hid (S6.cast (show _ = ownP 43 1 (.slice (some ⟨g1, 0, none⟩) n cap1) n (wvals ((m0).words n)) * (getP gb (get0 ⟨ct, cs, src, del⟩ 0 n en start) * memP p m0 * ownP 3 1 (.slice (some ⟨g2, 0, none⟩) R0.length cap2) R0.length (rvals R0)) * HP.emp by ac_rfl)).dropR.drop
  have hcap := (own_cap ((HS6.out.cast (HP.star_comm _ _)).own)).1
  have hcap2 := (own_cap ((HS6.out.cast (HP.star_comm _ _)).own)).2
  unfold maxLen at hcap2
  clear S6 HS3 HS4 HS5 hrc hrf HF
  go_wp2_with fail
  go_loopw [5, 15, 17] (fun tv r i wq => ∃ k : Nat, k ≤ T ∧ i = .int .i64 k ∧ tv = .int .i64 ((runT n ⟨get0 ⟨ct, cs, src, del⟩ 0 n en start, m0, c0⟩ k).c : Int) ∧ ∃ ln cp o, r = .slice (some ⟨g2, o, none⟩) ln cp ∧ ln = R0.length - (c0 - (runT n ⟨get0 ⟨ct, cs, src, del⟩ 0 n en start, m0, c0⟩ k).c) ∧
    (0 < ln → o = if en = 0 then c0 - (runT n ⟨get0 ⟨ct, cs, src, del⟩ 0 n en start, m0, c0⟩ k).c else 0) ∧ ln ≤ cp ∧ cp ≤ cap2 ∧
    St W0 wq (getP gb (runT n ⟨get0 ⟨ct, cs, src, del⟩ 0 n en start, m0, c0⟩ k).g * memP p (runT n ⟨get0 ⟨ct, cs, src, del⟩ 0 n en start, m0, c0⟩ k).m * ownP 3 1 (.slice (some ⟨g2, 0, none⟩) R0.length cap2) R0.length (rvals R0))) (fun _ _ i _ => T - (intOf i).toNat)
  case atStart => exact ⟨0, Nat.zero_le _, rfl, rfl, R0.length, cap2, 0, rfl, by simp [runT], fun _ => by simp [runT], hcap, Nat.le_refl _, HS6.out⟩
  case round =>
    obtain ⟨k, hk, rfl, rfl, ln, cp, o, rfl, hln, hoo, hcl, hcp, hS⟩ := hrel
    have HSk := Lib.hid hS
    obtain ⟨hrc, hrf⟩ := blk_S (blk_frm HB.out (hS).frm (by simp)); have hbt := Nat.lt_of_lt_of_le hbt0 (hS).frm.size
    clear hS
    have hlg := HLg.out k
    have hcb := HCb.out k
    have hsu := HSu.out k
    have hok := HOk.out k
    have hcf := HCf2.out k
    by_cases hkT : k < T
    · have hph := HT2.out k hkT
      have hk2 : (k : Int) < 2000 := by omega
      generalize runT n ⟨get0 ⟨ct, cs, src, del⟩ 0 n en start, m0, c0⟩ k = s at *
      obtain ⟨g, m, c⟩ := s
      simp only at HSk hln hoo hlg hcb hsu hok hph hcf
      have HPh := Lib.hid (phase_st (HSk.out.cast (HP.star_assoc _ _ _)))
      rw [hph] at HPh
      have HSt := Lib.hid (getStep_st HSk.out hok.ok (by omega))
      have hok2 := get_step_ok n g m hok.ok hok.u
      have hu2 := step_u64 n g m hok.ok hok.u
      have hlen2 : (g.step n m).2.cells.length = 2 * n + 2 * ct := by
        have h := hok2.fits.len
        rw [step_cf] at h
        have h3 : g.cf = ⟨ct, cs, src, del⟩ := hcf
        rw [h3] at h
        exact h
      have hlg2 := step_log_le n g m
      generalize hgm : g.step n m = gm at *
      obtain ⟨g', m'⟩ := gm
      simp only at hlen2 hu2 HSt hlg2
      obtain ⟨V, hV⟩ : ∃ V, m'.at (2 * n) = V := ⟨_, rfl⟩
      obtain ⟨V1, hV1⟩ : ∃ V1, IntKind.i64.wrap V = V1 := ⟨_, rfl⟩
      obtain ⟨a, ha⟩ : ∃ a, IntKind.i64.wrap (V1 - 1) = a := ⟨_, rfl⟩
      obtain ⟨hl1, hl2⟩ := looked_iff hn16 (show U64 V by rw [← hV]; exact hu2 _) (by rw [hV1, ha])
      have hcI : (0 : Int) ≤ (c : Int) := by omega
      have HLn := Lib.hid hln
      clear hln
      have HPz : Hid (∀ w8, St W0 w8 (getP gb g' * memP p m' * ownP 3 1 (.slice (some ⟨g2, 0, none⟩) R0.length cap2) R0.length (rvals R0)) → Calls Try.prog 24 #[.pointer (some ⟨p, 0, none⟩), .int .i64 (2 * (n : Int))] w8 fun e w' => e = .returned (.int .u64 V) ∧ w8 = w') := fun w8 S => by
        have h := peek_st (S.cast (show _ = memP p m' * (getP gb g' * ownP 3 1 (.slice (some ⟨g2, 0, none⟩) R0.length cap2) R0.length (rvals R0)) by ac_rfl)) (2 * n) (by omega)
        rw [hV, show ((2 * n : Nat) : Int) = 2 * (n : Int) by omega] at h
        exact h
      have HPy := Lib.hid (fun w8 (S : St W0 w8 (getP gb g' * memP p m' * ownP 3 1 (.slice (some ⟨g2, 0, none⟩) R0.length cap2) R0.length (rvals R0))) k (hk : k < m'.cells.length) => peek_st (S.cast (show _ = memP p m' * (getP gb g' * ownP 3 1 (.slice (some ⟨g2, 0, none⟩) R0.length cap2) R0.length (rvals R0)) by ac_rfl)) k hk)
      have hfd := Try.fld_st
      by_cases hA : 0 ≤ a ∧ a < (n : Int)
      · obtain ⟨v1, v2⟩ := hl1.1 hA
        have hav := hl2 ⟨v1, v2⟩
        obtain ⟨z, rfl⟩ : ∃ z : Nat, a = z := ⟨a.toNat, by omega⟩
        obtain ⟨hA1, hA2⟩ := hA
        have hzn : z < n := by omega
        have HX := Lib.hid (hu2 z)
        have HUn := Lib.hid (fun w' => word_unpack w' (m'.at z) HX.out.1 HX.out.2)
        by_cases hE : 0 < c ∧ (unpk (m'.at z)).st = 1
        · obtain ⟨hE1, hst⟩ := hE
          have hs1 : runT n ⟨get0 ⟨ct, cs, src, del⟩ 0 n en start, m0, c0⟩ (k + 1) = ⟨g', m'.turn z, c - 1⟩ := by
            rw [hsu, tries_step_yes (z := z) ⟨hE1, by rw [hgm]; exact ⟨by rw [hV]; exact v1, by rw [hV]; exact v2, by rw [hV, show (V - 1).toNat = z by omega]; exact hst⟩⟩ (by rw [hgm, hV]; omega), hgm]
          have HS1 := Lib.hid hs1
          have hc : (0 : Int) < (c : Int) := by omega
          clear hl1 hl2
          have hlp : 0 < ln := by have := HLn.out; omega
          have ho := hoo hlp
          have HOo := Lib.hid ho
          have hl1 : IntKind.i64.wrap ((ln : Int) - 1) = ((ln - 1 : Nat) : Int) := (w64 (by omega) (by have := HLn.out; omega)).trans (by omega)
          have hl2 : (((ln - 1 : Nat) : Int)) < (ln : Int) := by omega
          have hl3 : (0 : Int) ≤ ((ln - 1 : Nat) : Int) := by omega
          have hl4 : (0 : Int) < (ln : Int) := by omega
          have hc1' : IntKind.i64.wrap ((c : Int) - 1) = ((c - 1 : Nat) : Int) := (w64 (by omega) (by omega)).trans (by omega)
          have HPc := Lib.hid (fun w' => word_pack w' (unpk (m'.at z)).taken (unpk_taken_ok _))
          have HStr := Lib.hid (fun w' => store_tri w' p m' (-1) ((unpk (m'.at z)).taken.pack) z (by omega) (by omega) (pack_u64 _ (unpk_taken_ok _)))
          clear hs1 hsu hok2 hu2 hgm hok hcf hav ho hoo
          go_wp2_with (first | (go_at_call 22; refine HPh.out.mono ?_; rintro e _ ⟨rfl, rfl⟩) | (go_at_call 21; refine HSt.out.mono ?_; rintro e w7 ⟨rfl, S7⟩; have HS7 := Lib.hid S7; clear hrc hrf; obtain ⟨hrc, hrf⟩ := blk_S (blk_frm HB.out (S7).frm (by simp)); have hbt := Nat.lt_of_lt_of_le hbt0 (S7).frm.size; clear S7) | (go_at_call 28; refine (lay_hazard _ ct cs src del (by omega) (by omega) 0 (by omega) n HN.out).mono ?_; rintro e w8 ⟨rfl, q8⟩; have HS8 := Lib.hid (HS7.out.ext q8); clear hrc hrf; obtain ⟨hrc, hrf⟩ := blk_S (blk_frm HB.out (HS8.out).frm (by simp)); have hbt := Nat.lt_of_lt_of_le hbt0 (HS8.out).frm.size; clear q8) | (go_at_call 24; with_reducible refine (HPz.out _ HS8.out).mono ?_; rintro e _ ⟨rfl, rfl⟩) | (go_at_call 26; refine (lay_all _ ct cs src del (by omega) (by omega) n HN.out).mono ?_; rintro e w9 ⟨rfl, q9⟩; have HS9 := Lib.hid (HS8.out.ext q9); clear hrc hrf; obtain ⟨hrc, hrf⟩ := blk_S (blk_frm HB.out (HS9.out).frm (by simp)); have hbt := Nat.lt_of_lt_of_le hbt0 (HS9.out).frm.size; clear q9) | (go_at_call 30; refine (lay_word _ ct cs src del z).mono ?_; rintro e w10 ⟨rfl, q10⟩; have HS10 := Lib.hid (HS9.out.ext q10); clear q10) | (go_at_call 24; with_reducible refine (HPy.out _ HS10.out z (by omega)).mono ?_; rintro e _ ⟨rfl, rfl⟩) | (go_at_call 29; refine (HUn.out _).mono ?_; rintro e w11 ⟨rfl, q11⟩; have HS11 := Lib.hid (HS10.out.ext q11); clear q11))
          have HBw := Lib.hid (blk_frm HB.out HS11.out.frm (by simp))
          clear hrc hrf
          go_region_held3 (fun w' => (∀ o, w'.cell? ⟨cb, o, none⟩ = (#[.int .i64 ct, .int .i64 cs, .int .i64 src, .int .i64 del] : Array Value)[o]?))
            (first | exact fun o => blk_cell (blk_frm HB.out S17.frm (by simp)) o | exact fun o => blk_cell (blk_frm HBw.out p16 (by simp)) o | exact fun o => blk_cell (blk_frm HBw.out p15 (by simp)) o | exact fun o => blk_cell (blk_frm HBw.out p14 (by simp)) o | exact fun o => blk_cell (blk_frm HBw.out p13 (by simp)) o | exact fun o => blk_cell (blk_frm HBw.out p12 (by simp)) o | exact fun o => blk_cell (blk_drew HBw.out) o)
            (first | (go_at_call 30; refine (lay_word _ ct cs src del z).mono ?_; rintro e w12 ⟨rfl, q12⟩; have p12 := (Frm.drew [] w11).tr q12) | (go_at_call 30; refine (lay_word _ ct cs src del z).mono ?_; rintro e w13 ⟨rfl, q13⟩; have p13 := p12.tr q13) | (go_at_call 24; refine (HPy.out _ (HS11.out.ext p13) z (by omega)).mono ?_; rintro e _ ⟨rfl, rfl⟩) | (go_at_call 29; refine (HUn.out _).mono ?_; rintro e w14 ⟨rfl, q14⟩; have p14 := p13.tr q14) | (go_at_call 32; refine (word_taken _ _ _ _ _ _).mono ?_; rintro e w15 ⟨rfl, q15⟩; have p15 := p14.tr q15) | (go_at_call 33; refine (HPc.out _).mono ?_; rintro e w16 ⟨rfl, q16⟩; have p16 := p15.tr q16) | (go_at_call 31; refine (((HS11.out.ext p16).cast (show _ = memP p m' * (getP gb g' * ownP 3 1 (.slice (some ⟨g2, 0, none⟩) R0.length cap2) R0.length (rvals R0)) by ac_rfl)).call (HStr.out _)).mono ?_; rintro e w17 ⟨_, ⟨rfl, rfl⟩, S17⟩))
          have HS17 := Lib.hid (S17.cast (show _ = getP gb g' * memP p (m'.turn z) * ownP 3 1 (.slice (some ⟨g2, 0, none⟩) R0.length cap2) R0.length (rvals R0) by unfold MemS.turn; ac_rfl))
          clear S17 p12 p13 p14 p15 p16 q12 q13 q14 q15 q16
          rcases HEn.out with ⟨hr, he⟩ | ⟨hr, he⟩
          · subst hr
            by_cases hcp1 : cp = 1
            all_goals
              go_wp2
              go_roundw
              case rel => first | exact ⟨k + 1, by omega, by go_num, by rw [HS1.out], ln - 1, cp - 1, o + 1, rfl, by rw [HS1.out]; have := HLn.out; simp only; omega, fun h => by rw [HS1.out]; have := HOo.out; rw [if_pos he] at this ⊢; simp only; omega, by omega, by omega, by rw [HS1.out]; exact HS17.out⟩ | exact ⟨k + 1, by omega, by go_num, by rw [HS1.out], ln - 1, 0, o, rfl, by rw [HS1.out]; have := HLn.out; simp only; omega, fun h => absurd h (by omega), by omega, by omega, by rw [HS1.out]; exact HS17.out⟩
              case measure => simp [intOf]; omega
          · subst hr
            go_wp2
            go_roundw
            case rel => exact ⟨k + 1, by omega, by go_num, by rw [HS1.out], ln - 1, cp, o, rfl, by rw [HS1.out]; have := HLn.out; simp only; omega, fun h => by rw [HS1.out]; have := HOo.out; rw [if_neg (by omega)] at this ⊢; exact this, by omega, by omega, by rw [HS1.out]; exact HS17.out⟩
            case measure => simp [intOf]; omega
        · have hs1 : runT n ⟨get0 ⟨ct, cs, src, del⟩ 0 n en start, m0, c0⟩ (k + 1) = ⟨g', m', c⟩ := by
            rw [hsu, tries_step_no (by
              rw [hgm]
              rintro ⟨h0, h1, h2, h3⟩
              rw [hV, show (V - 1).toNat = z by omega] at h3
              exact hE ⟨h0, h3⟩), hgm]
          have HS1 := Lib.hid hs1
          clear hs1 hsu hl1 hl2 hok2 hu2 hgm hok hcf hav
          by_cases hc : (0 : Int) < (c : Int)
          · have hst : ¬ (unpk (m'.at z)).st = 1 := fun h => hE ⟨by omega, h⟩
            clear hE
            go_wp2_with (first | (go_at_call 22; refine HPh.out.mono ?_; rintro e _ ⟨rfl, rfl⟩) | (go_at_call 21; refine HSt.out.mono ?_; rintro e w7 ⟨rfl, S7⟩; have HS7 := Lib.hid S7; clear hrc hrf; obtain ⟨hrc, hrf⟩ := blk_S (blk_frm HB.out (S7).frm (by simp)); have hbt := Nat.lt_of_lt_of_le hbt0 (S7).frm.size; clear S7) | (go_at_call 28; refine (lay_hazard _ ct cs src del (by omega) (by omega) 0 (by omega) n HN.out).mono ?_; rintro e w8 ⟨rfl, q8⟩; have HS8 := Lib.hid (HS7.out.ext q8); clear hrc hrf; obtain ⟨hrc, hrf⟩ := blk_S (blk_frm HB.out (HS8.out).frm (by simp)); have hbt := Nat.lt_of_lt_of_le hbt0 (HS8.out).frm.size; clear q8) | (go_at_call 24; with_reducible refine (HPz.out _ HS8.out).mono ?_; rintro e _ ⟨rfl, rfl⟩) | (go_at_call 26; refine (lay_all _ ct cs src del (by omega) (by omega) n HN.out).mono ?_; rintro e w9 ⟨rfl, q9⟩; have HS9 := Lib.hid (HS8.out.ext q9); clear hrc hrf; obtain ⟨hrc, hrf⟩ := blk_S (blk_frm HB.out (HS9.out).frm (by simp)); have hbt := Nat.lt_of_lt_of_le hbt0 (HS9.out).frm.size; clear q9) | (go_at_call 30; refine (lay_word _ ct cs src del z).mono ?_; rintro e w10 ⟨rfl, q10⟩; have HS10 := Lib.hid (HS9.out.ext q10); clear q10) | (go_at_call 24; with_reducible refine (HPy.out _ HS10.out z (by omega)).mono ?_; rintro e _ ⟨rfl, rfl⟩) | (go_at_call 29; refine (HUn.out _).mono ?_; rintro e w11 ⟨rfl, q11⟩; have HS11 := Lib.hid (HS10.out.ext q11); clear q11))
            go_roundw
            case rel => first | exact ⟨k + 1, by omega, by go_num, by rw [HS1.out], ln, cp, o, rfl, by rw [HS1.out]; exact HLn.out, by rw [HS1.out]; exact hoo, hcl, hcp, by rw [HS1.out]; exact HS11.out⟩ | exact ⟨k + 1, by omega, by go_num, by rw [HS1.out], ln, cp, o, rfl, by rw [HS1.out]; exact HLn.out, by rw [HS1.out]; exact hoo, hcl, hcp, by rw [HS1.out]; exact HS9.out⟩ | exact ⟨k + 1, by omega, by go_num, by rw [HS1.out], ln, cp, o, rfl, by rw [HS1.out]; exact HLn.out, by rw [HS1.out]; exact hoo, hcl, hcp, by rw [HS1.out]; exact HS8.out⟩
            case measure => simp [intOf]; omega
          · clear hE
            go_wp2_with (first | (go_at_call 22; refine HPh.out.mono ?_; rintro e _ ⟨rfl, rfl⟩) | (go_at_call 21; refine HSt.out.mono ?_; rintro e w7 ⟨rfl, S7⟩; have HS7 := Lib.hid S7; clear hrc hrf; obtain ⟨hrc, hrf⟩ := blk_S (blk_frm HB.out (S7).frm (by simp)); have hbt := Nat.lt_of_lt_of_le hbt0 (S7).frm.size; clear S7) | (go_at_call 28; refine (lay_hazard _ ct cs src del (by omega) (by omega) 0 (by omega) n HN.out).mono ?_; rintro e w8 ⟨rfl, q8⟩; have HS8 := Lib.hid (HS7.out.ext q8); clear hrc hrf; obtain ⟨hrc, hrf⟩ := blk_S (blk_frm HB.out (HS8.out).frm (by simp)); have hbt := Nat.lt_of_lt_of_le hbt0 (HS8.out).frm.size; clear q8) | (go_at_call 24; with_reducible refine (HPz.out _ HS8.out).mono ?_; rintro e _ ⟨rfl, rfl⟩) | (go_at_call 26; refine (lay_all _ ct cs src del (by omega) (by omega) n HN.out).mono ?_; rintro e w9 ⟨rfl, q9⟩; have HS9 := Lib.hid (HS8.out.ext q9); clear hrc hrf; obtain ⟨hrc, hrf⟩ := blk_S (blk_frm HB.out (HS9.out).frm (by simp)); have hbt := Nat.lt_of_lt_of_le hbt0 (HS9.out).frm.size; clear q9) | (go_at_call 30; refine (lay_word _ ct cs src del z).mono ?_; rintro e w10 ⟨rfl, q10⟩; have HS10 := Lib.hid (HS9.out.ext q10); clear q10) | (go_at_call 24; with_reducible refine (HPy.out _ HS10.out z (by omega)).mono ?_; rintro e _ ⟨rfl, rfl⟩) | (go_at_call 29; refine (HUn.out _).mono ?_; rintro e w11 ⟨rfl, q11⟩; have HS11 := Lib.hid (HS10.out.ext q11); clear q11))
            go_roundw
            case rel => first | exact ⟨k + 1, by omega, by go_num, by rw [HS1.out], ln, cp, o, rfl, by rw [HS1.out]; exact HLn.out, by rw [HS1.out]; exact hoo, hcl, hcp, by rw [HS1.out]; exact HS11.out⟩ | exact ⟨k + 1, by omega, by go_num, by rw [HS1.out], ln, cp, o, rfl, by rw [HS1.out]; exact HLn.out, by rw [HS1.out]; exact hoo, hcl, hcp, by rw [HS1.out]; exact HS9.out⟩ | exact ⟨k + 1, by omega, by go_num, by rw [HS1.out], ln, cp, o, rfl, by rw [HS1.out]; exact HLn.out, by rw [HS1.out]; exact hoo, hcl, hcp, by rw [HS1.out]; exact HS8.out⟩
            case measure => simp [intOf]; omega
      · have hs1 : runT n ⟨get0 ⟨ct, cs, src, del⟩ 0 n en start, m0, c0⟩ (k + 1) = ⟨g', m', c⟩ := by
          rw [hsu, tries_step_no (by rw [hgm]; rintro ⟨_, h1, h2, _⟩; rw [hV] at h1 h2; exact hA (hl1.2 ⟨h1, h2⟩)), hgm]
        have HS1 := Lib.hid hs1
        clear hs1 hsu hl1 hl2 hok2 hu2 hgm hok hcf
        by_cases hB : 0 ≤ a
        all_goals
          go_wp2_with (first | (go_at_call 22; refine HPh.out.mono ?_; rintro e _ ⟨rfl, rfl⟩) | (go_at_call 21; refine HSt.out.mono ?_; rintro e w7 ⟨rfl, S7⟩; have HS7 := Lib.hid S7; clear hrc hrf; obtain ⟨hrc, hrf⟩ := blk_S (blk_frm HB.out (S7).frm (by simp)); have hbt := Nat.lt_of_lt_of_le hbt0 (S7).frm.size; clear S7) | (go_at_call 28; refine (lay_hazard _ ct cs src del (by omega) (by omega) 0 (by omega) n HN.out).mono ?_; rintro e w8 ⟨rfl, q8⟩; have HS8 := Lib.hid (HS7.out.ext q8); clear hrc hrf; obtain ⟨hrc, hrf⟩ := blk_S (blk_frm HB.out (HS8.out).frm (by simp)); have hbt := Nat.lt_of_lt_of_le hbt0 (HS8.out).frm.size; clear q8) | (go_at_call 24; with_reducible refine (HPz.out _ HS8.out).mono ?_; rintro e _ ⟨rfl, rfl⟩) | (go_at_call 26; refine (lay_all _ ct cs src del (by omega) (by omega) n HN.out).mono ?_; rintro e w9 ⟨rfl, q9⟩; have HS9 := Lib.hid (HS8.out.ext q9); clear hrc hrf; obtain ⟨hrc, hrf⟩ := blk_S (blk_frm HB.out (HS9.out).frm (by simp)); have hbt := Nat.lt_of_lt_of_le hbt0 (HS9.out).frm.size; clear q9) | (go_at_call 30; refine (lay_word _ ct cs src del z).mono ?_; rintro e w10 ⟨rfl, q10⟩; have HS10 := Lib.hid (HS9.out.ext q10); clear q10) | (go_at_call 24; with_reducible refine (HPy.out _ HS10.out z (by omega)).mono ?_; rintro e _ ⟨rfl, rfl⟩) | (go_at_call 29; refine (HUn.out _).mono ?_; rintro e w11 ⟨rfl, q11⟩; have HS11 := Lib.hid (HS10.out.ext q11); clear q11))
          go_roundw
          case rel => first | exact ⟨k + 1, by omega, by go_num, by rw [HS1.out], ln, cp, o, rfl, by rw [HS1.out]; exact HLn.out, by rw [HS1.out]; exact hoo, hcl, hcp, by rw [HS1.out]; exact HS11.out⟩ | exact ⟨k + 1, by omega, by go_num, by rw [HS1.out], ln, cp, o, rfl, by rw [HS1.out]; exact HLn.out, by rw [HS1.out]; exact hoo, hcl, hcp, by rw [HS1.out]; exact HS9.out⟩ | exact ⟨k + 1, by omega, by go_num, by rw [HS1.out], ln, cp, o, rfl, by rw [HS1.out]; exact HLn.out, by rw [HS1.out]; exact hoo, hcl, hcp, by rw [HS1.out]; exact HS8.out⟩
          case measure => simp [intOf]; omega
    · obtain rfl : T = k := by omega
      clear hkT hk
      obtain ⟨x1, x2, x3⟩ := HT5.out
      generalize runT n ⟨get0 ⟨ct, cs, src, del⟩ 0 n en start, m0, c0⟩ T = s at *
      obtain ⟨g, m, c⟩ := s
      simp only at HSk hln hoo hlg hcb hok hcf x1 x2 x3
      subst x1
      have hlen2 : m.cells.length = 2 * n + 2 * ct := by
        have h := hok.ok.fits.len
        have h3 : g.cf = ⟨ct, cs, src, del⟩ := hcf
        rw [h3] at h
        exact h
      have x2' : g.tries = c0 := by have h : g.tries = 0 + c0 := x2; omega
      have HG := Lib.hid (fun w' (q : Frm [] wr w') => (HSk.out.ext q).cast (show _ = getP gb g * (memP p m * ownP 3 1 (.slice (some ⟨g2, 0, none⟩) R0.length cap2) R0.length (rvals R0)) by ac_rfl))
      have HM := Lib.hid (fun w' (q : Frm [] wr w') => (HSk.out.ext q).cast (show _ = memP p m * ownP 3 1 (.slice (some ⟨g2, 0, none⟩) R0.length cap2) R0.length (rvals R0) * getP gb g by ac_rfl))
      have HPp := Lib.hid (fun w' (q : Frm [] wr w') => phase_st (HG.out w' q))
      have HVa := Lib.hid (fun w' (q : Frm [] wr w') => value_st (HG.out w' q))
      have HTr := Lib.hid (fun w' (q : Frm [] wr w') => tries_st (HG.out w' q))
      rw [x2'] at HTr
      have hc7 : (c0 : Int) ≤ 7 := by omega
      have HQk := Lib.hid (HQ0.out.tr HSk.out.frm)
      rcases x3 with ⟨y1, y2, y3⟩ | ⟨z, y1, y2, y3, y4, y5⟩
      · obtain rfl : ln = 0 := by omega
        have y3' : g.value = 0 := y3
        rw [y2] at HPp
        rw [y3'] at HVa
        clear x2 x2' y2 y3 y3' hln hoo
        go_wp2_with (first | (go_at_call 22; refine (HPp.out _ (Frm.refl [] _)).mono ?_; rintro e _ ⟨rfl, rfl⟩) | (go_at_call 23; refine (HVa.out _ (Frm.refl [] _)).mono ?_; rintro e _ ⟨rfl, rfl⟩))
        go_ret
        exact ⟨rfl, HQk.out⟩
      · rw [y4] at HPp
        rw [y5] at HVa
        have hlp : 0 < ln := by omega
        have ho := hoo hlp
        have HPv := Lib.hid (fun w' (q : Frm [] wr w') => peek_st ((HM.out w' q).cast (HP.star_assoc _ _ _)) (n + z) (by omega))
        have hob : o + ln ≤ R0.length := by
          by_cases he : en = 0
          · rw [if_pos he] at ho; omega
          · rw [if_neg he] at ho; omega
        have HR0 := Lib.hid (fun w' (q : Frm [] wr w') => own_slot ((HM.out w' q).cast (show _ = ownP 3 1 (.slice (some ⟨g2, 0, none⟩) R0.length cap2) R0.length (rvals R0) * (memP p m * getP gb g) by ac_rfl)).own o (by omega))
        have HR1 := Lib.hid (fun w' (q : Frm [] wr w') => own_slot ((HM.out w' q).cast (show _ = ownP 3 1 (.slice (some ⟨g2, 0, none⟩) R0.length cap2) R0.length (rvals R0) * (memP p m * getP gb g) by ac_rfl)).own (o + (ln - 1)) (by omega))
        have hz1 : en = 0 → R0.getD o 0 = z := fun he => by
          rw [if_pos (show (get0 ⟨ct, cs, src, del⟩ 0 n en start).en = 0 from he)] at y3
          rw [if_pos he] at ho
          rw [← y3]; congr 1; omega
        have hz2 : ¬ en = 0 → R0.getD (o + (ln - 1)) 0 = z := fun he => by
          rw [if_neg (show ¬ (get0 ⟨ct, cs, src, del⟩ 0 n en start).en = 0 from he)] at y3
          rw [if_neg he] at ho
          rw [← y3]; congr 1; omega
        have hl1 : IntKind.i64.wrap ((ln : Int) - 1) = ((ln - 1 : Nat) : Int) := (w64 (by omega) (by omega)).trans (by omega)
        have hl2 : (((ln - 1 : Nat) : Int)) < (ln : Int) := by omega
        have hl3 : (0 : Int) ≤ ((ln - 1 : Nat) : Int) := by omega
        have hl4 : (0 : Int) < (ln : Int) := by omega
        have hl5 : ¬ ln = 0 := by omega
        have HBw := Lib.hid (blk_frm HB.out HSk.out.frm (by simp))
        have HQr := Lib.hid (Frm.refl [] wr)
        generalize m.at (n + z) = V at *
        clear x2 x2' y3 y4 y5 ho hoo hln
        rcases HEn.out with ⟨hr, he⟩ | ⟨hr, he⟩
        · subst hr
          rw [hz1 he] at HR0
          have hc0 := HR0.out _ (Frm.refl _ _)
          have hc1 := HR1.out _ (Frm.refl _ _)
          clear hz1 hz2 he
          go_wp2_with (go_at_call 22; refine (HPp.out _ (Frm.refl [] _)).mono ?_; rintro e _ ⟨rfl, rfl⟩)
          clear hc0 hc1
          go_region_held3 (fun w' => (∀ o, w'.cell? ⟨cb, o, none⟩ = (#[.int .i64 ct, .int .i64 cs, .int .i64 src, .int .i64 del] : Array Value)[o]?))
            (first | exact fun o => blk_cell (blk_frm HBw.out p16 (by simp)) o | exact fun o => blk_cell (blk_drew HBw.out) o)
            (first | (go_at_call 22; refine (HPp.out _ (Frm.drew _ _)).mono ?_; rintro e _ ⟨rfl, rfl⟩; have p15 := Frm.drew [] wr) | (go_at_call 23; refine (HVa.out _ p15).mono ?_; rintro e _ ⟨rfl, rfl⟩) | (go_at_call 25; refine (lay_value _ ct cs src del (by omega) (by omega) z (by omega) n HN.out).mono ?_; rintro e w16 ⟨rfl, q16⟩; have p16 := p15.tr q16) | (go_at_call 24; refine (HPv.out _ p16).mono ?_; rintro e _ ⟨rfl, rfl⟩) | (go_at_call 34; refine (HTr.out _ p16).mono ?_; rintro e _ ⟨rfl, rfl⟩))
          go_wp2
          go_ret
          exact ⟨rfl, HQk.out.tr p16⟩
        · subst hr
          rw [hz2 (by omega)] at HR1
          have hc0 := HR0.out _ (Frm.refl _ _)
          have hc1 := HR1.out _ (Frm.refl _ _)
          clear hz1 hz2 he
          go_wp2_with (go_at_call 22; refine (HPp.out _ (Frm.refl [] _)).mono ?_; rintro e _ ⟨rfl, rfl⟩)
          clear hc0 hc1
          go_region_held3 (fun w' => (∀ o, w'.cell? ⟨cb, o, none⟩ = (#[.int .i64 ct, .int .i64 cs, .int .i64 src, .int .i64 del] : Array Value)[o]?))
            (first | exact fun o => blk_cell (blk_frm HBw.out p16 (by simp)) o | exact fun o => blk_cell (blk_drew HBw.out) o)
            (first | (go_at_call 22; refine (HPp.out _ (Frm.drew _ _)).mono ?_; rintro e _ ⟨rfl, rfl⟩; have p15 := Frm.drew [] wr) | (go_at_call 23; refine (HVa.out _ p15).mono ?_; rintro e _ ⟨rfl, rfl⟩) | (go_at_call 25; refine (lay_value _ ct cs src del (by omega) (by omega) z (by omega) n HN.out).mono ?_; rintro e w16 ⟨rfl, q16⟩; have p16 := p15.tr q16) | (go_at_call 24; refine (HPv.out _ p16).mono ?_; rintro e _ ⟨rfl, rfl⟩) | (go_at_call 34; refine (HTr.out _ p16).mono ?_; rintro e _ ⟨rfl, rfl⟩))
          go_wp2
          go_ret
          exact ⟨rfl, HQk.out.tr p16⟩

end Go.Proofs.Ytkcimjcmlibgpaa
