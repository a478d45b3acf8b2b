/-
  stackyardlaw11.GetAlone returns true. No condition.
-/
import Derived.Test.YtkcimjcmlibgpaaRunC
namespace Go.Proofs.Ytkcimjcmlibgpaa
open Go.RowKit

set_option maxRecDepth 100000 in
set_option maxHeartbeats 4000000 in
theorem getAlone_walk (w : World) (threads : Int) (_ : I64 threads) (slots : Int) (_ : I64 slots) (who : Int) (_ : I64 who) (start : Int) (_ : I64 start) (right : Bool) (lv : Value) (l : List Thg) (hl : LstT w lv l) (hu : ∀ x ∈ l, U64 x.value) :
    Calls Try.prog 7 #[.int .i64 threads, .int .i64 slots, .int .i64 who, .int .i64 start, .bool right, lv] w fun e w' => e = .returned (.bool true) ∧ Frm [] w w' := by
  obtain ⟨ao, cap, rfl, _⟩ := Lst.shape (show Lst 6 Thg.vals Thg.zero w lv l from hl)
  by_cases h64 : (64 : Int) < (l.length : Int)
  · clear hl hu
    go_enter Try.func7, Try.ntmps7
    go_wp2_with (go_at_call 13; refine (law_head _).mono ?_; rintro e w1 ⟨rfl, q1⟩; have HQ1 := Lib.hid q1; clear q1)
    go_ret
    exact ⟨rfl, HQ1.out⟩
  have HL := Lib.hid hl
  have HU := Lib.hid hu
  clear hl hu
  have c1 := conf_t threads slots 0 0
  have c2 := conf_s threads slots 0 0
  have HCf := Lib.hid (fun w => law_conf w threads slots 0 0)
  obtain ⟨cf, hcf⟩ : ∃ c, confC threads slots 0 0 = c := ⟨_, rfl⟩
  rw [hcf] at c1 c2 HCf
  clear hcf
  obtain ⟨ct, cs, src, del⟩ := cf
  simp only at c1 c2 HCf
  obtain ⟨c10, c11⟩ := c1
  obtain ⟨c20, c21⟩ := c2
  obtain ⟨n, hn⟩ : ∃ n, n = ct * cs := ⟨_, rfl⟩
  have hn16 : n ≤ 16 := by rw [hn]; exact Nat.mul_le_mul c11 c21
  have hn0 : 1 ≤ n := by rw [hn]; exact Nat.mul_le_mul c10 c20
  have HN := Lib.hid hn
  clear hn
  have hct : ¬ ct = 0 := by omega
  have hw1 := who_rem who ct c10
  have hw2 := who_lt who ct c10
  obtain ⟨t, ht⟩ : ∃ t, whoN who ct = t := ⟨_, rfl⟩
  rw [ht] at hw1 hw2
  have hw3 : IntKind.i64.wrap (t : Int) = (t : Int) := w64 (by omega) (by omega)
  clear ht
  have HEnd := Lib.hid (fun w => law_end w right)
  have hen : (right = false ∧ (if right = true then (1 : Int) else 0) = 0) ∨ (right = true ∧ (if right = true then (1 : Int) else 0) = 1) := by cases right <;> simp
  generalize (if right = true then (1 : Int) else 0) = en at HEnd hen
  have HEn := Lib.hid hen
  clear hen
  go_enter Try.func7, Try.ntmps7
  go_wp2_with (first | (go_at_call 13; refine (law_head _).mono ?_; rintro e w1 ⟨rfl, q1⟩; have HQ1 := Lib.hid q1; clear q1) | (go_at_call 14; refine (HCf.out _).mono ?_; rintro e w2 ⟨rfl, q2⟩; have HQ2 := Lib.hid q2; clear q2))
  have HB := Lib.hid (blk_new w2 #[.int .i64 ct, .int .i64 cs, .int .i64 src, .int .i64 del] 27)
  have HQ0 := Lib.hid ((HQ1.out.tr HQ2.out).tr (Frm.alloc [] w2 (.cells #[.int .i64 ct, .int .i64 cs, .int .i64 src, .int .i64 del] 27)))
  have hbt0 := blk_lt HB.out
  clear HQ1 HQ2 hw1 hw3 hct HCf
  generalize w2.alloc (.cells #[.int .i64 ct, .int .i64 cs, .int .i64 src, .int .i64 del] 27) = W0 at HB HQ0 hbt0 ⊢
  generalize w2.heap.size = cb at HB hbt0 ⊢
  refine (cells_st (St.emp (Frm.refl [] W0)) n ct cs src del _ l (Lst.ext HL.out HQ0.out) HU.out HN.out c10 (by omega) c20 (by omega)).mono ?_
  rintro e w3 ⟨p, rfl, S3⟩
  have HS3 := Lib.hid S3
  obtain ⟨hrc, hrf⟩ := blk_S (blk_frm HB.out S3.frm (by simp))
  have hbt := Nat.lt_of_lt_of_le hbt0 S3.frm.size
  clear S3
  have hfits := cellsT_fits ⟨ct, cs, src, del⟩ n l HN.out c10 (show ct ≤ 64 by omega) c20 (show cs ≤ 64 by omega)
  have hlen : (cellsT n ct l).cells.length = 2 * n + 2 * ct := cellsT_len n ct l
  have hlog := cellsT_log n ct l
  have hhz := cellsT_rest n ct l
  have hu0 := HS3.out.u64
  simp only at hfits
  generalize cellsT n ct l = m0 at *
  have HF := Lib.hid hfits
  have hfr : Fresh n (get0 ⟨ct, cs, src, del⟩ t n en start) := ⟨rfl, rfl, rfl⟩
  obtain ⟨K, hK⟩ := alone_K m0 hfr hfits hw2
  have hok := runG_ok (get0_ok ⟨ct, cs, src, del⟩ t n en start m0 hfits hw2 (by rcases HEn.out with ⟨_, h⟩ | ⟨_, h⟩ <;> simp [h])) hu0
  have HOk := Lib.hid hok
  have HK := Lib.hid hK
  have hKl := hK.le
  clear hok hK hfr
  have HW := Lib.hid (words_u64 hu0 n (by omega))
  have HU0 := Lib.hid hu0
  have hwl := words_len m0 n (by omega)
  have hlb : m0.log.length ≤ 32 := by omega
  clear hu0 hfits hlog
  go_wp2_with (first | (go_at_call 17; refine (words_st HS3.out HF.out).mono ?_; rintro e w4 ⟨g1, cap1, rfl, S4⟩; have HS4 := Lib.hid S4; clear hrc hrf; obtain ⟨hrc, hrf⟩ := blk_S (blk_frm HB.out (S4).frm (by simp)); have hbt := Nat.lt_of_lt_of_le hbt0 (S4).frm.size; clear S4) | (go_at_call 16; refine (row_st HS4.out hwl (by omega) HW.out).mono ?_; rintro e w5 ⟨g2, cap2, rfl, S5⟩; have HS5 := Lib.hid S5; clear hrc hrf; obtain ⟨hrc, hrf⟩ := blk_S (blk_frm HB.out (S5).frm (by simp)); have hbt := Nat.lt_of_lt_of_le hbt0 (S5).frm.size; clear S5) | (go_at_call 35; refine (count_st (HS5.out.cast (show _ = memP p m0 * (ownP 43 1 (.slice (some ⟨g1, 0, none⟩) n cap1) n (wvals ((m0).words n)) * ownP 3 1 (.slice (some ⟨g2, 0, none⟩) (rowW ((m0).words n)).length cap2) (rowW ((m0).words n)).length (rvals (rowW ((m0).words n))) * HP.emp) by ac_rfl))).mono ?_; rintro e _ ⟨rfl, rfl⟩))
  go_region_held3 (fun w' => (∀ o, w'.cell? ⟨cb, o, none⟩ = (#[.int .i64 ct, .int .i64 cs, .int .i64 src, .int .i64 del] : Array Value)[o]?))
    (first | exact fun o => blk_cell (blk_drew (blk_frm HB.out HS5.out.frm (by simp))) o | exact fun o => blk_cell (blk_frm HB.out S6.frm (by simp)) o)
    (first | (go_at_call 19; refine (HEnd.out _).mono ?_; rintro e _ ⟨rfl, rfl⟩) | (go_at_call 18; refine (getNew_st HS5.out.drew ct cs t n src del en start (by omega) (by omega) HN.out hn0).mono ?_; rintro e w6 ⟨gb, rfl, S6⟩))
  have HS6 := Lib.hid (S6.cast (show _ = getP gb (get0 ⟨ct, cs, src, del⟩ t n en start) * memP p m0 * (ownP 43 1 (.slice (some ⟨g1, 0, none⟩) n cap1) n (wvals ((m0).words n)) * ownP 3 1 (.slice (some ⟨g2, 0, none⟩) (rowW ((m0).words n)).length cap2) (rowW ((m0).words n)).length (rvals (rowW ((m0).words n))) * HP.emp) by ac_rfl))
  clear hrc hrf; obtain ⟨hrc, hrf⟩ := blk_S (blk_frm HB.out (S6).frm (by simp)); have hbt := Nat.lt_of_lt_of_le hbt0 (S6).frm.size
  clear S6 HS3 HS4 HS5
  go_wp2_with fail
  go_loopw [19] (fun i wq => ∃ k : Nat, k ≤ K ∧ i = .int .i64 k ∧ St W0 wq (getP gb (runG n (get0 ⟨ct, cs, src, del⟩ t n en start) m0 k).1 * memP p (runG n (get0 ⟨ct, cs, src, del⟩ t n en start) m0 k).2 * (ownP 43 1 (.slice (some ⟨g1, 0, none⟩) n cap1) n (wvals ((m0).words n)) * ownP 3 1 (.slice (some ⟨g2, 0, none⟩) (rowW ((m0).words n)).length cap2) (rowW ((m0).words n)).length (rvals (rowW ((m0).words n))) * HP.emp))) (fun i _ => K - (intOf i).toNat)
  case atStart => exact ⟨0, Nat.zero_le _, rfl, HS6.out⟩
  case round =>
    obtain ⟨k, hk, rfl, hS⟩ := hrel
    have HSk := Lib.hid hS
    have HPh := Lib.hid (phase_st (hS.cast (HP.star_assoc _ _ _)))
    clear hrc hrf; obtain ⟨hrc, hrf⟩ := blk_S (blk_frm HB.out (hS).frm (by simp)); have hbt := Nat.lt_of_lt_of_le hbt0 (hS).frm.size
    clear hS
    by_cases hkK : k < K
    · rw [HK.out.before k hkK] at HPh
      have hk200 : (k : Int) < 200 := by omega
      have hkl := HK.out.log k (by omega)
      go_wp2_with (first | (go_at_call 22; refine HPh.out.mono ?_; rintro e _ ⟨rfl, rfl⟩) | (go_at_call 21; refine (getStep_st HSk.out (HOk.out k).1 (by omega)).mono ?_; rintro e w7 ⟨rfl, S7⟩; have HS7 := Lib.hid S7; clear S7))
      go_roundw
      case rel => exact ⟨k + 1, by omega, by go_num, HS7.out⟩
      case measure => simp [intOf]; omega
    · obtain rfl : k = K := by omega
      clear hkK hk
      have hkl := HK.out.log k (by omega)
      have hcl := HK.out.len
      have hht : (runG n (get0 ⟨ct, cs, src, del⟩ t n en start) m0 k).1.tries = 0 := HK.out.tries
      have HWd := Lib.hid HK.out.words
      have HVl := Lib.hid HK.out.value
      have HOr := Lib.hid HK.out.or
      have hhaz : (runG n (get0 ⟨ct, cs, src, del⟩ t n en start) m0 k).2.at (2 * n + t) = 0 := by
        rcases HK.out.hazard (show 2 * n + t < m0.cells.length by omega) with h | h
        · exact h
        · exact h.trans (hhz _ (by omega))
      have hpk : ¬ (runG n (get0 ⟨ct, cs, src, del⟩ t n en start) m0 k).1.phase = 0 := by
        rcases HOr.out with ⟨_, _, h, _⟩ | ⟨_, _, _, _, h, _⟩ <;> omega
      have hfk := fits_of HF.out hcl
      have HFk := Lib.hid hfk
      have huk := (HOk.out k).2
      have HUk := Lib.hid huk
      clear hfk huk HOk HK
      generalize hrr : runG n (get0 ⟨ct, cs, src, del⟩ t n en start) m0 k = r at *
      obtain ⟨g, m⟩ := r
      simp only at HSk HPh hkl hcl hht HWd HVl HOr hhaz hpk HFk HUk
      have HCn := Lib.hid (fun w' (q : Frm [] wr w') => count_st ((HSk.out.ext q).cast (show _ = memP p m * (getP gb g * (ownP 43 1 (.slice (some ⟨g1, 0, none⟩) n cap1) n (wvals ((m0).words n)) * ownP 3 1 (.slice (some ⟨g2, 0, none⟩) (rowW ((m0).words n)).length cap2) (rowW ((m0).words n)).length (rvals (rowW ((m0).words n))) * HP.emp)) by ac_rfl)))
      have HTr := Lib.hid (fun w' (q : Frm [] wr w') => tries_st ((HSk.out.ext q).cast (HP.star_assoc _ _ _)))
      have HPk := Lib.hid (fun w' (q : Frm [] wr w') k (hk : k < m.cells.length) => peek_st ((HSk.out.ext q).cast (show _ = memP p m * (getP gb g * (ownP 43 1 (.slice (some ⟨g1, 0, none⟩) n cap1) n (wvals ((m0).words n)) * ownP 3 1 (.slice (some ⟨g2, 0, none⟩) (rowW ((m0).words n)).length cap2) (rowW ((m0).words n)).length (rvals (rowW ((m0).words n))) * HP.emp)) by ac_rfl)) k hk)
      have HVa := Lib.hid (fun w' (q : Frm [] wr w') => value_st ((HSk.out.ext q).cast (HP.star_assoc _ _ _)))
      have HPp := Lib.hid (fun w' (q : Frm [] wr w') => phase_st ((HSk.out.ext q).cast (HP.star_assoc _ _ _)))
      have HPz := Lib.hid (fun w' (q : Frm [] wr w') => HPk.out w' q (2 * n + t) (by omega))
      rw [hht] at HTr
      rw [hkl] at HCn
      rw [hhaz] at HPz
      have hw9 : IntKind.i64.wrap ((m0.log.length : Int) + (k : Int)) = ((m0.log.length + k : Nat) : Int) := w64 (by omega) (by omega) |>.trans (by omega)
      have hQk := HSk.out.frm
      have HQk := Lib.hid hQk
      clear hrr hQk HPh
      rcases HOr.out with ⟨hK2, hR, hp, hv, hc⟩ | ⟨z, hK2, hz, hzn, hp, hv, hc⟩
      · have hv' : g.value = 0 := hv
        rw [hp] at HPp
        rw [hv'] at HVa
        rw [hR] at HSk ⊢
        have h2n : IntKind.i64.wrap (2 * (n : Int)) = 2 * (n : Int) := w64 (by omega) (by omega)
        subst hK2
        clear HOr hc hR hv hv' hpk hhaz
        go_wp2_with (first | (go_at_call 22; refine (HPp.out _ (Frm.refl [] _)).mono ?_; rintro e _ ⟨rfl, rfl⟩) | (go_at_call 35; refine (HCn.out _ (Frm.refl [] _)).mono ?_; rintro e _ ⟨rfl, rfl⟩) | (go_at_call 34; refine (HTr.out _ (Frm.refl [] _)).mono ?_; rintro e _ ⟨rfl, rfl⟩) | (go_at_call 28; refine (lay_hazard _ ct cs src del (by omega) (by omega) t (by omega) n HN.out).mono ?_; rintro e w8 ⟨rfl, q8⟩; have HQ8 := Lib.hid q8; clear hrc hrf; obtain ⟨hrc, hrf⟩ := blk_S (blk_frm HB.out ((HSk.out.ext q8)).frm (by simp)); have hbt := Nat.lt_of_lt_of_le hbt0 ((HSk.out.ext q8)).frm.size; clear q8) | (go_at_call 24; refine (HPz.out _ HQ8.out).mono ?_; rintro e _ ⟨rfl, rfl⟩) | (go_at_call 22; refine (HPp.out _ HQ8.out).mono ?_; rintro e _ ⟨rfl, rfl⟩) | (go_at_call 26; refine (lay_all _ ct cs src del (by omega) (by omega) n HN.out).mono ?_; rintro e w9 ⟨rfl, q9⟩; have HQ9 := Lib.hid (HQ8.out.tr q9); clear q9) | (go_at_call 23; refine (HVa.out _ HQ9.out).mono ?_; rintro e _ ⟨rfl, rfl⟩))
        go_ret
        exact ⟨rfl, (HQ0.out.tr HQk.out).tr HQ9.out⟩
      · have hz' : atR (rowW (m0.words n)) en = (z : Int) := hz
        have hv' : g.value = m0.at (n + z) := hv
        have hmv : m.at (n + z) = m0.at (n + z) := HVl.out (n + z) (by omega) (by omega)
        have hWd : m.words n = (m0.words n).set z ((unpk (m0.at z)).taken.pack) := by
          rcases HWd.out with ⟨hr, _⟩ | ⟨z2, h1, _, h2⟩
          · have hr' : rowW (m0.words n) = [] := hr
            rw [hr'] at hz'
            simp only [atR] at hz'
            omega
          · have h1' : atR (rowW (m0.words n)) en = (z2 : Int) := h1
            obtain rfl : z = z2 := by omega
            exact h2
        rw [hp] at HPp
        rw [hv'] at HVa
        have hx := HU0.out z
        have hwz : (m0.words n).getD z 0 = m0.at z := words_at m0 n z hzn
        have HPv := Lib.hid (fun w' (q : Frm [] wr w') => HPk.out w' q (n + z) (by omega))
        rw [hmv] at HPv
        have hRl : 0 < (rowW (m0.words n)).length := by
          rcases HEn.out with ⟨_, he⟩ | ⟨_, he⟩
          · exact (atR_left he hz').1
          · exact (atR_right he hz').1
        have hRI : (0 : Int) < ((rowW (m0.words n)).length : Int) := by omega
        have hRb : (rowW (m0.words n)).length ≤ 16 := by have := rowW_len (m0.words n); omega
        have hR1 : IntKind.i64.wrap (((rowW (m0.words n)).length : Int) - 1) = (((rowW (m0.words n)).length - 1 : Nat) : Int) := (w64 (by omega) (by omega)).trans (by omega)
        have hRa : (((rowW (m0.words n)).length - 1 : Nat) : Int) < ((rowW (m0.words n)).length : Int) := by omega
        have hRc : (0 : Int) ≤ (((rowW (m0.words n)).length - 1 : Nat) : Int) := by omega
        have hRn : ¬ (rowW (m0.words n)).length = 0 := by omega
        have hz0 : (0 : Int) ≤ (z : Int) := by omega
        have hz1 : (z : Int) < (n : Int) := by omega
        have hr0 : ∀ w', Frm [] wr w' → w'.cell? ⟨g2, 0, none⟩ = some (.int .i64 ((rowW (m0.words n)).getD 0 0 : Nat)) := fun w' q => own_slot ((HSk.out.ext q).cast (show _ = ownP 3 1 (.slice (some ⟨g2, 0, none⟩) (rowW ((m0).words n)).length cap2) (rowW ((m0).words n)).length (rvals (rowW ((m0).words n))) * (memP p m * (getP gb g * (ownP 43 1 (.slice (some ⟨g1, 0, none⟩) n cap1) n (wvals ((m0).words n)) * HP.emp))) by ac_rfl)).own 0 hRl
        have hr1 : ∀ w', Frm [] wr w' → w'.cell? ⟨g2, (rowW (m0.words n)).length - 1, none⟩ = some (.int .i64 ((rowW (m0.words n)).getD ((rowW (m0.words n)).length - 1) 0 : Nat)) := fun w' q => own_slot ((HSk.out.ext q).cast (show _ = ownP 3 1 (.slice (some ⟨g2, 0, none⟩) (rowW ((m0).words n)).length cap2) (rowW ((m0).words n)).length (rvals (rowW ((m0).words n))) * (memP p m * (getP gb g * (ownP 43 1 (.slice (some ⟨g1, 0, none⟩) n cap1) n (wvals ((m0).words n)) * HP.emp))) by ac_rfl)).own _ (by omega)
        have HR0 := Lib.hid hr0
        have HR1 := Lib.hid hr1
        have HRz : Hid ((right = false → (rowW (m0.words n)).getD 0 0 = z) ∧ (right = true → (rowW (m0.words n)).getD ((rowW (m0.words n)).length - 1) 0 = z)) := by
          rcases HEn.out with ⟨hr, he⟩ | ⟨hr, he⟩
          · exact ⟨fun _ => (atR_left he hz').2, fun h => by rw [hr] at h; simp at h⟩
          · exact ⟨fun h => by rw [hr] at h; simp at h, fun _ => (atR_right he hz').2⟩
        have HG1 := Lib.hid (fun w' (q : Frm [] wr w') => (HSk.out.ext q).cast (show _ = ownP 43 1 (.slice (some ⟨g1, 0, none⟩) n cap1) n (wvals ((m0).words n)) * (ownP 3 1 (.slice (some ⟨g2, 0, none⟩) (rowW ((m0).words n)).length cap2) (rowW ((m0).words n)).length (rvals (rowW ((m0).words n))) * (memP p m * (getP gb g * HP.emp))) by ac_rfl))
        have hgc : W0.heap.size ≤ g1 := (HG1.out _ (Frm.refl _ _)).own_ge
        have hne1 : cb ≠ g1 := by omega
        have hne2 : g1 ≠ cb := by omega
        have h2n : IntKind.i64.wrap (2 * (n : Int)) = 2 * (n : Int) := w64 (by omega) (by omega)
        have h2n5 : IntKind.i64.wrap (2 * (n : Int) + 5) = 2 * (n : Int) + 5 := w64 (by omega) (by omega)
        subst hK2
        have HWq := Lib.hid hWd
        have HPg0 := Lib.hid (And.intro hp (And.intro hv' hmv))
        clear HOr hc hv hv' hpk hhaz hr0 hr1 HWd hWd hmv hz hz' hp
        generalize m0.at (n + z) = V at *
        have HP1 := Lib.hid (fun w' => word_unpack w' (m0.at z) hx.1 hx.2)
        have HP2 := Lib.hid (fun w' => word_pack w' (unpk (m0.at z)).taken (unpk_taken_ok _))
        have HX := Lib.hid (fun w' (q : Frm [] wr w') => (own_word (HG1.out w' q).own z (by omega)).trans (by rw [hwz]))
        have HY := Lib.hid (fun w' (q : Frm [] wr w') => (own_free (HG1.out w' q).own z))
        have hgl : ∀ w', Frm [] wr w' → g1 < w'.heap.size := fun w' q => ((HG1.out w' q).own.lt g1 rfl).2
        have HGl := Lib.hid hgl
        clear hx hgl hrc hrf
        rcases HEn.out with ⟨hr, he⟩ | ⟨hr, he⟩
        all_goals
          subst hr
          first | rw [HRz.out.1 rfl] at HR0 | rw [HRz.out.2 rfl] at HR1
          clear HRz he
          obtain ⟨hrc, hrf⟩ := blk_S (blk_frm HB.out HSk.out.frm (by simp))
          go_wp2_with (first | (go_at_call 22; refine (HPp.out _ (Frm.refl [] _)).mono ?_; rintro e _ ⟨rfl, rfl⟩) | (go_at_call 35; refine (HCn.out _ (Frm.refl [] _)).mono ?_; rintro e _ ⟨rfl, rfl⟩) | (go_at_call 34; refine (HTr.out _ (Frm.refl [] _)).mono ?_; rintro e _ ⟨rfl, rfl⟩) | (go_at_call 28; refine (lay_hazard _ ct cs src del (by omega) (by omega) t (by omega) n HN.out).mono ?_; rintro e w8 ⟨rfl, q8⟩; have HQ8 := Lib.hid q8; clear hrc hrf; obtain ⟨hrc, hrf⟩ := blk_S (blk_frm HB.out ((HSk.out.ext q8)).frm (by simp)); have hbt := Nat.lt_of_lt_of_le hbt0 ((HSk.out.ext q8)).frm.size; have hc0 := HR0.out _ q8; have hc1 := HR1.out _ q8; have hcX := HX.out _ q8; clear q8) | (go_at_call 24; refine (HPz.out _ HQ8.out).mono ?_; rintro e _ ⟨rfl, rfl⟩) | (go_at_call 29; refine (HP1.out _).mono ?_; rintro e w10 ⟨rfl, q10⟩; have HQ10 := Lib.hid (HQ8.out.tr q10); clear hrc hrf hc0 hc1 hcX q10) | (go_at_call 32; refine (word_taken _ _ _ _ _ _).mono ?_; rintro e w11 ⟨rfl, q11⟩; have HQ11 := Lib.hid (HQ10.out.tr q11); clear q11) | (go_at_call 33; refine (HP2.out _).mono ?_; rintro e w12 ⟨rfl, q12⟩; have HQ12 := Lib.hid (HQ11.out.tr q12); obtain ⟨hrc, hrf⟩ := blk_S (blk_frm HB.out ((HSk.out.ext HQ12.out)).frm (by simp)); have hbt := Nat.lt_of_lt_of_le hbt0 ((HSk.out.ext HQ12.out)).frm.size; have hcX := HX.out _ HQ12.out; have hcY := HY.out _ HQ12.out; have hgl := HGl.out _ HQ12.out; clear q12))
          have S13 := (HG1.out _ HQ12.out).setOwn z (.int .u64 (unpk (m0.at z)).taken.pack)
          rw [wvals_set, ← HWq.out] at S13
          refine (words_st (S13.cast (show _ = memP p m * (ownP 43 1 (.slice (some ⟨g1, 0, none⟩) n cap1) n (wvals ((m).words n)) * (ownP 3 1 (.slice (some ⟨g2, 0, none⟩) (rowW ((m0).words n)).length cap2) (rowW ((m0).words n)).length (rvals (rowW ((m0).words n))) * (getP gb g * HP.emp))) by ac_rfl)) HFk.out).mono ?_
          rintro e w14 ⟨g3, cap3, rfl, S14⟩
          have HS14 := Lib.hid S14
          have hml : (m.words n).length = n := words_len m n (by omega)
          have HA := Lib.hid (S14.own)
          have HC := Lib.hid (S14.cast (show _ = ownP 43 1 (.slice (some ⟨g1, 0, none⟩) n cap1) n (wvals ((m).words n)) * (ownP 43 1 (.slice (some ⟨g3, 0, none⟩) n cap3) n (wvals ((m).words n)) * (ownP 3 1 (.slice (some ⟨g2, 0, none⟩) (rowW ((m0).words n)).length cap2) (rowW ((m0).words n)).length (rvals (rowW ((m0).words n))) * (memP p m * (getP gb g * HP.emp)))) by ac_rfl)).own
          have HP14 := Lib.hid S14.frm
          clear hrc hrf hcX hcY hgl S13 S14 HCn HTr HPp HPk HVa HPz HPv HR0 HR1 HX HY HGl HP1 HP2
          go_wp2_with fail
          go_loopw [125] (fun i wq => ∃ j : Nat, j ≤ n ∧ i = .int .i64 j ∧ wq = w14) (fun i _ => n - (intOf i).toNat)
          case atStart => exact ⟨0, Nat.zero_le _, rfl, rfl⟩
          case round =>
            obtain ⟨j, hj, rfl, hwq⟩ := hrel
            subst hwq
            by_cases hjn : j < n
            · have hj0 : (0 : Int) ≤ (j : Int) := by omega
              have hj1 : (j : Int) < (n : Int) := by omega
              have hca := own_word HA.out j (by omega)
              have hcc := own_word HC.out j (by omega)
              generalize (m.words n).getD j 0 = X at hca hcc
              go_wp2
              go_roundw
              case rel => exact ⟨j + 1, by omega, by go_num, by first | trivial | rfl⟩
              case measure => simp [intOf]; omega
            · obtain rfl : n = j := by omega
              clear hjn hj
              have HG := Lib.hid (fun w' (q : Frm [] wr w') => (HS14.out.ext q).cast (show _ = getP gb g * (memP p m * (ownP 43 1 (.slice (some ⟨g1, 0, none⟩) n cap1) n (wvals ((m).words n)) * (ownP 43 1 (.slice (some ⟨g3, 0, none⟩) n cap3) n (wvals ((m).words n)) * (ownP 3 1 (.slice (some ⟨g2, 0, none⟩) (rowW ((m0).words n)).length cap2) (rowW ((m0).words n)).length (rvals (rowW ((m0).words n))) * HP.emp)))) by ac_rfl))
              have HM := Lib.hid (fun w' (q : Frm [] wr w') => (HS14.out.ext q).cast (show _ = memP p m * (getP gb g * (ownP 43 1 (.slice (some ⟨g1, 0, none⟩) n cap1) n (wvals ((m).words n)) * (ownP 43 1 (.slice (some ⟨g3, 0, none⟩) n cap3) n (wvals ((m).words n)) * (ownP 3 1 (.slice (some ⟨g2, 0, none⟩) (rowW ((m0).words n)).length cap2) (rowW ((m0).words n)).length (rvals (rowW ((m0).words n))) * HP.emp)))) by ac_rfl))
              have HPp := Lib.hid (fun w' (q : Frm [] wr w') => phase_st (HG.out w' q))
              have HVa := Lib.hid (fun w' (q : Frm [] wr w') => value_st (HG.out w' q))
              have HPv := Lib.hid (fun w' (q : Frm [] wr w') => peek_st (HM.out w' q) (n + z) (by omega))
              obtain ⟨e1, e2, e3⟩ := HPg0.out
              rw [e1] at HPp
              rw [e2] at HVa
              rw [e3] at HPv
              have HPa := Lib.hid (fun w' => get_alone w' ct cs n src del (by omega) (by omega) HN.out)
              obtain ⟨hrc, hrf⟩ := blk_S (blk_frm HB.out HS14.out.frm (by simp))
              have hbt := Nat.lt_of_lt_of_le hbt0 HS14.out.frm.size
              have HQw := Lib.hid (HQ0.out.tr HS14.out.frm)
              have HBw := Lib.hid (blk_frm HB.out HS14.out.frm (by simp))
              clear HG HM HA HC HS14 e1 e2 e3 HPg0
              go_wp2_with fail
              go_region_held3 (fun w' => (∀ o, w'.cell? ⟨cb, o, none⟩ = (#[.int .i64 ct, .int .i64 cs, .int .i64 src, .int .i64 del] : Array Value)[o]?))
                (first | exact fun o => blk_cell (blk_frm HBw.out p17 (by simp)) o | exact fun o => blk_cell (blk_frm HBw.out p16 (by simp)) o | exact fun o => blk_cell (blk_frm HBw.out p15 (by simp)) o | exact fun o => blk_cell (blk_drew HBw.out) o)
                (first | (go_at_call 22; refine (HPp.out _ (Frm.drew _ _)).mono ?_; rintro e _ ⟨rfl, rfl⟩) | (go_at_call 26; refine (lay_all _ ct cs src del (by omega) (by omega) n HN.out).mono ?_; rintro e w15 ⟨rfl, q15⟩; have p15 := (Frm.drew [] wr).tr q15) | (go_at_call 23; refine (HVa.out _ p15).mono ?_; rintro e _ ⟨rfl, rfl⟩) | (go_at_call 25; refine (lay_value _ ct cs src del (by omega) (by omega) z (by omega) n HN.out).mono ?_; rintro e w16 ⟨rfl, q16⟩; have p16 := p15.tr q16) | (go_at_call 24; refine (HPv.out _ p16).mono ?_; rintro e _ ⟨rfl, rfl⟩) | (go_at_call 20; refine (HPa.out _).mono ?_; rintro e w17 ⟨rfl, q17⟩; have p17 := p16.tr q17))
              have HPz := Lib.hid p17
              clear p17 p16 p15 q15 q16 q17
              go_wp2
              go_ret
              exact ⟨rfl, HQw.out.tr HPz.out⟩

end Go.Proofs.Ytkcimjcmlibgpaa
