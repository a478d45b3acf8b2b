/-
  stackyardlaw12.TaskRests returns true. No condition.
-/
import Derived.Test.YtkcimjcmlibgpaaTaskD
namespace Go.Proofs.Ytkcimjcmlibgpaa
open Go.RowKit

theorem runK_put (n : Nat) (t0 : Int) (T : TaskS) (m : MemS) (h : ∃ P, T.work = .put P) (k : Nat) : ∃ P, (runK n t0 T m k).1.work = .put P := by
  induction k with
  | zero => exact h
  | succ k ih =>
    obtain ⟨P, hP⟩ := ih
    rw [runK_succ]
    unfold TaskS.step
    rw [hP]
    exact ⟨_, rfl⟩
theorem task0_reply (cf : Cf) (who n : Nat) (kind en value start t0 : Int) (m : MemS) (k : Nat) :
    (kind = 0 → (runK n t0 (task0 cf who n kind en value start) m k).1.reply.value = 0) ∧ (kind ≠ 0 → (runK n t0 (task0 cf who n kind en value start) m k).1.reply.lo = 0 ∧ (runK n t0 (task0 cf who n kind en value start) m k).1.reply.hi = 0) := by
  refine ⟨fun hk => ?_, fun hk => ?_⟩
  · obtain ⟨P, hP⟩ := runK_put n t0 (task0 cf who n kind en value start) m ⟨put0 cf who en value, by unfold task0; simp only; rw [if_pos hk]⟩ k
    exact reply_put hP
  · have hT : (task0 cf who n kind en value start).work = .get (get0 cf who n en start) := by unfold task0; simp only; rw [if_neg hk]
    rw [runK_get n t0 _ _ m hT k]
    exact reply_get rfl

theorem taskStep_over {W0 w : World} {kb p n : Nat} {cf : Cf} {T : TaskS} {m : MemS} {R : HP} (h : St W0 w (taskP kb T * memP p m * R)) (hov : T.over = true) (hf : Fits cf n m) (ho : T.work.Ok cf n m) (hlog : m.log.length < 1099511627775) (now : Int) :
    Calls Try.prog 49 #[.pointer (some ⟨kb, 0, none⟩), .pointer (some ⟨p, 0, none⟩), .int .i64 now] w fun e w' => e = .returned (.bool true) ∧ St W0 w' (taskP kb T * memP p m * R) := by
  have h1 := taskStep_st h now hf ho hlog
  rw [task_rests hov, hov] at h1
  exact h1

set_option maxRecDepth 100000 in
set_option maxHeartbeats 4000000 in
theorem taskRests_walk (w : World) (threads : Int) (_ : I64 threads) (slots : Int) (_ : I64 slots) (source : Int) (_ : I64 source) (lv : Value) (l : List Thg) (hl : LstT w lv l) (hu : ∀ x ∈ l, U64 x.value) (take right : Bool) (value : Int) (hv : U64 value) :
    Calls Try.prog 10 #[.int .i64 threads, .int .i64 slots, .int .i64 source, lv, .bool take, .bool right, .int .u64 value] w fun e w' => e = .returned (.bool true) ∧ Frm [] w w' := by
  obtain ⟨ao, cap, rfl, _⟩ := Lst.shape (show Lst 6 Thg.vals Thg.zero w lv l from hl)
  by_cases h64 : (64 : Int) < (l.length : Int)
  · clear hl hu
    go_enter Try.func10, Try.ntmps10
    go_wp2_with (go_at_call 44; refine (law12_head _).mono ?_; rintro e w1 ⟨rfl, q1⟩; have HQ1 := Lib.hid q1; clear q1)
    go_ret
    exact ⟨rfl, HQ1.out⟩
  have HL := Lib.hid hl
  have HU := Lib.hid hu
  clear hl hu
  have c3 := conf_src threads slots source 1
  have c4 := conf_del threads slots source 1
  have c1 := conf_t threads slots source 1
  have c2 := conf_s threads slots source 1
  have HCf := Lib.hid (fun w => law_conf w threads slots source 1)
  obtain ⟨cf, hcf⟩ : ∃ c, confC threads slots source 1 = c := ⟨_, rfl⟩
  rw [hcf] at c1 c2 c3 c4 HCf
  clear hcf
  obtain ⟨ct, cs, src, del⟩ := cf
  simp only at c1 c2 c3 c4 HCf
  obtain ⟨c10, c11⟩ := c1
  obtain ⟨c20, c21⟩ := c2
  have C3 := Lib.hid c3
  have C4 := Lib.hid c4
  clear c3 c4
  obtain ⟨n, hn⟩ : ∃ n, n = ct * cs := ⟨_, rfl⟩
  have hn16 : n ≤ 16 := by rw [hn]; exact Nat.mul_le_mul c11 c21
  have hn0 : 1 ≤ n := by rw [hn]; exact Nat.mul_le_mul c10 c20
  have HN := Lib.hid hn
  clear hn
  have HMk := Lib.hid (fun w => law12_make w take right value 1)
  obtain ⟨kind, hk⟩ : ∃ k : Int, (if take = true then 1 else 0) = k := ⟨_, rfl⟩
  obtain ⟨en, he⟩ : ∃ k : Int, (if right = true then 1 else 0) = k := ⟨_, rfl⟩
  rw [hk, he] at HMk
  have HKd := Lib.hid (show kind = 0 ∨ kind = 1 by rw [← hk]; cases take <;> simp)
  have HEn := Lib.hid (show en = 0 ∨ en = 1 by rw [← he]; cases right <;> simp)
  have HKt := Lib.hid hk
  have HV := Lib.hid hv
  clear hk he hv
  go_enter Try.func10, Try.ntmps10
  go_wp2_with (first | (go_at_call 44; refine (law12_head _).mono ?_; rintro e w1 ⟨rfl, q1⟩; have HQ1 := Lib.hid q1; clear q1) | (go_at_call 14; refine (HCf.out _).mono ?_; rintro e w2 ⟨rfl, q2⟩; have HQ2 := Lib.hid q2; clear q2))
  have HB := Lib.hid (blk_new w2 #[.int .i64 ct, .int .i64 cs, .int .i64 src, .int .i64 del] 27)
  have HQ0 := Lib.hid ((HQ1.out.tr HQ2.out).tr (Frm.alloc [] w2 (.cells #[.int .i64 ct, .int .i64 cs, .int .i64 src, .int .i64 del] 27)))
  have hbt0 := blk_lt HB.out
  clear HQ1 HQ2 HCf
  generalize w2.alloc (.cells #[.int .i64 ct, .int .i64 cs, .int .i64 src, .int .i64 del] 27) = W0 at HB HQ0 hbt0 ⊢
  generalize w2.heap.size = cb at HB hbt0 ⊢
  refine (cells_st (St.emp (Frm.refl [] W0)) n ct cs src del _ l (Lst.ext HL.out HQ0.out) HU.out HN.out c10 (by omega) c20 (by omega)).mono ?_
  rintro e w3 ⟨p, rfl, S3⟩
  have HS3 := Lib.hid S3
  obtain ⟨hrc, hrf⟩ := blk_S (blk_frm HB.out (S3).frm (by simp)); have hbt := Nat.lt_of_lt_of_le hbt0 (S3).frm.size
  clear S3
  have hfits := cellsT_fits ⟨ct, cs, src, del⟩ n l HN.out c10 (show ct ≤ 64 by omega) c20 (show cs ≤ 64 by omega)
  have hlen : (cellsT n ct l).cells.length = 2 * n + 2 * ct := cellsT_len n ct l
  have hlog := cellsT_log n ct l
  have hhz := cellsT_rest n ct l
  have hu0 := HS3.out.u64
  simp only at hfits
  generalize cellsT n ct l = m0 at *
  have HF := Lib.hid hfits
  have HW := Lib.hid (words_u64 hu0 n (by omega))
  have HU0 := Lib.hid hu0
  have hwl := words_len m0 n (by omega)
  have hlb : m0.log.length ≤ 32 := by omega
  clear hlog
  clear hhz hwl
  obtain ⟨K, k1, k2, k3⟩ := task0_ends (who := 0) (kind := kind) (en := en) (value := value) (start := 1) (t0 := 0) hfits c11 c21 C3.out.1 C3.out.2 C4.out.1 C4.out.2 (show 0 < ct by omega) HEn.out HV.out hu0 (by omega)
  have HOk := Lib.hid (runK_ok (t0 := 0) (task0_ok (who := 0) (kind := kind) (en := en) (value := value) (start := 1) hfits C3.out.1 C3.out.2 C4.out.1 (by have h := C4.out.2; show del ≤ 100; omega) (show 0 < ct by omega) HEn.out HV.out) hu0 (by omega))
  clear HW HU0 hu0 hfits C3 C4 HV HEn
  go_wp2_with fail
  go_region_held3 (fun w' => (∀ o, w'.cell? ⟨cb, o, none⟩ = (#[.int .i64 ct, .int .i64 cs, .int .i64 src, .int .i64 del] : Array Value)[o]?))
    (first | with_reducible exact fun o => blk_cell (blk_frm HB.out (p0.tr q4) (by simp)) o | exact fun o => blk_cell (blk_drew (blk_frm HB.out HS3.out.frm (by simp))) o | exact fun o => blk_cell (blk_frm HB.out S5.frm (by simp)) o | exact fun o => blk_cell (blk_frm HB.out S4.frm (by simp)) o)
    (first | (go_at_call 48; refine (HMk.out _).mono ?_; rintro e w4 ⟨rfl, q4⟩; have S4 := HS3.out.drew.ext q4) | (go_at_call 47; refine (task_new_st S4 ct cs 0 n src del kind en value 1 (by omega) (by omega) HN.out hn0 HKd.out).mono ?_; rintro e w5 ⟨kb, rfl, S5⟩))
  obtain ⟨T0, hT0⟩ : ∃ T, task0 ⟨ct, cs, src, del⟩ 0 n kind en value 1 = T := ⟨_, rfl⟩
  rw [hT0] at S5 k2 k3 HOk
  have HS5 := Lib.hid (S5.cast (show _ = taskP kb (runK n 0 T0 m0 0).1 * memP p (runK n 0 T0 m0 0).2 * HP.emp from (HP.star_assoc _ _ _).symm))
  clear S5 S4 hrc hrf HS3 q4
  have K2 := Lib.hid k2
  have K3 := Lib.hid k3
  have HT0 := Lib.hid hT0
  clear k2 k3 hT0
  go_wp2_with fail
  go_loopw [18] (fun i wq => ∃ k : Nat, k ≤ K ∧ i = .int .i64 k ∧ St W0 wq (taskP kb (runK n 0 T0 m0 k).1 * memP p (runK n 0 T0 m0 k).2 * HP.emp)) (fun i _ => K - (intOf i).toNat)
  case atStart => exact ⟨0, Nat.zero_le _, rfl, HS5.out⟩
  case round =>
    obtain ⟨k, hk, rfl, hS⟩ := hrel
    have HSk := Lib.hid hS
    obtain ⟨hrc, hrf⟩ := blk_S (blk_frm HB.out (hS).frm (by simp)); have hbt := Nat.lt_of_lt_of_le hbt0 (hS).frm.size
    have HOv := Lib.hid (taskOver_st (hS.cast (HP.star_assoc _ _ _)))
    have hgo := HOk.out k
    have hlg := hgo.log
    clear hS
    by_cases hkK : k < K
    · rw [K2.out k hkK] at HOv
      have hk300 : (k : Int) < 300 := by omega
      have hfk : Fits ⟨ct, cs, src, del⟩ n (runK n 0 T0 m0 k).2 := fits_of HF.out hgo.len
      have e : runK n 0 T0 m0 (k + 1) = TaskS.step n (k : Int) (runK n 0 T0 m0 k).1 (runK n 0 T0 m0 k).2 := by rw [runK_succ, Int.zero_add]
      have HSt := Lib.hid (taskStep_st HSk.out (k : Int) hfk hgo.ok (by omega))
      rw [← e] at HSt
      clear e hgo hlg hfk
      go_wp2_with (first | (go_at_call 52; refine HOv.out.mono ?_; rintro e _ ⟨rfl, rfl⟩) | (go_at_call 49; refine HSt.out.mono ?_; rintro e w5 ⟨rfl, S5⟩; have HS5 := Lib.hid S5; clear S5))
      go_roundw
      case rel => exact ⟨k + 1, by omega, by go_num, HS5.out⟩
      case measure => simp [intOf]; omega
    · obtain rfl : k = K := by omega
      have hov := K3.out
      rw [hov] at HOv
      have hrp := task0_reply ⟨ct, cs, src, del⟩ 0 n kind en value 1 0 m0 k
      rw [HT0.out] at hrp
      have hfk : Fits ⟨ct, cs, src, del⟩ n (runK n 0 T0 m0 k).2 := fits_of HF.out hgo.len
      have hok := hgo.ok
      clear hgo HOk K2 K3 HT0 hkK HF HS5
      generalize runK n 0 T0 m0 k = r at *
      obtain ⟨T1, M1⟩ := r
      simp only at HSk HOv hov hrp hfk hok hlg
      have HRe := Lib.hid (fun now : Int => task_rests (n := n) (now := now) (m := M1) hov)
      have HOf := Lib.hid (And.intro hfk hok)
      have HOx := Lib.hid hov
      have HRp := Lib.hid (taskReply_st (HSk.out.cast (HP.star_assoc _ _ _)))
      obtain ⟨rp, hrpe⟩ : ∃ r, T1.reply = r := ⟨_, rfl⟩
      rw [hrpe] at hrp HRp
      obtain ⟨rok, rv, rlo, rhi⟩ := rp
      simp only [ReplyS.agg] at hrp HRp
      have HRq := Lib.hid hrpe
      have HRr := Lib.hid hrp
      clear hrpe hrp hfk hok hov
      go_wp2_with (first | (go_at_call 52; refine HOv.out.mono ?_; rintro e _ ⟨rfl, rfl⟩) | (go_at_call 50; refine HRp.out.mono ?_; rintro e w6 ⟨rfl, q6⟩; have HQ6 := Lib.hid q6; clear q6))
      have HS7 := Lib.hid ((HSk.out.ext HQ6.out).al #[.bool rok, .int .u64 rv, .int .i64 rlo, .int .i64 rhi] 89)
      clear HQ6 HSk HRp HOv hrc hrf
      generalize w6.alloc (.cells #[.bool rok, .int .u64 rv, .int .i64 rlo, .int .i64 rhi] 89) = W7 at HS7 ⊢
      generalize w6.heap.size = rb at HS7 ⊢
      have hlog : M1.log.length < 1099511627775 := by omega
      have HStep : Hid (∀ (w' : World) (now : Int), St W0 w' (blkP rb #[.bool rok, .int .u64 rv, .int .i64 rlo, .int .i64 rhi] 89 * (taskP kb T1 * memP p M1 * HP.emp)) → Calls Try.prog 49 #[.pointer (some ⟨kb, 0, none⟩), .pointer (some ⟨p, 0, none⟩), .int .i64 now] w' fun e w'' => e = .returned (.bool true) ∧ St W0 w'' (blkP rb #[.bool rok, .int .u64 rv, .int .i64 rlo, .int .i64 rhi] 89 * (taskP kb T1 * memP p M1 * HP.emp))) := Lib.hid fun w' now S => by
        refine (taskStep_over (S.cast (show _ = taskP kb T1 * memP p M1 * (blkP rb #[.bool rok, .int .u64 rv, .int .i64 rlo, .int .i64 rhi] 89 * HP.emp) by ac_rfl)) HOx.out HOf.out.1 HOf.out.2 hlog now).mono ?_
        rintro e w'' ⟨he, S'⟩
        exact ⟨he, S'.cast (by ac_rfl)⟩
      have HRep : Hid (∀ (w' : World), St W0 w' (blkP rb #[.bool rok, .int .u64 rv, .int .i64 rlo, .int .i64 rhi] 89 * (taskP kb T1 * memP p M1 * HP.emp)) → Calls Try.prog 50 #[.pointer (some ⟨kb, 0, none⟩)] w' fun e w'' => e = .returned (.agg #[.bool rok, .int .u64 rv, .int .i64 rlo, .int .i64 rhi]) ∧ Frm [] w' w'') := Lib.hid fun w' S => by
        have h := taskReply_st (S.cast (show _ = taskP kb T1 * (blkP rb #[.bool rok, .int .u64 rv, .int .i64 rlo, .int .i64 rhi] 89 * (memP p M1 * HP.emp)) by ac_rfl))
        rw [HRq.out] at h
        exact h
      have HOver : Hid (∀ (w' : World), St W0 w' (blkP rb #[.bool rok, .int .u64 rv, .int .i64 rlo, .int .i64 rhi] 89 * (taskP kb T1 * memP p M1 * HP.emp)) → Calls Try.prog 52 #[.pointer (some ⟨kb, 0, none⟩)] w' fun e w'' => e = .returned (.bool true) ∧ w' = w'') := Lib.hid fun w' S => by
        have h := taskOver_st (S.cast (show _ = taskP kb T1 * (blkP rb #[.bool rok, .int .u64 rv, .int .i64 rlo, .int .i64 rhi] 89 * (memP p M1 * HP.emp)) by ac_rfl))
        rw [HOx.out] at h
        exact h
      have HCnt : Hid (∀ (w' : World), St W0 w' (blkP rb #[.bool rok, .int .u64 rv, .int .i64 rlo, .int .i64 rhi] 89 * (taskP kb T1 * memP p M1 * HP.emp)) → Calls Try.prog 35 #[.pointer (some ⟨p, 0, none⟩)] w' fun e w'' => e = .returned (.int .i64 M1.log.length) ∧ w' = w'') := Lib.hid fun w' S => 
        count_st (S.cast (show _ = memP p M1 * (blkP rb #[.bool rok, .int .u64 rv, .int .i64 rlo, .int .i64 rhi] 89 * (taskP kb T1 * HP.emp)) by ac_rfl))
      clear HRe HOf HOx HRq
      go_wp2_with (go_at_call 35; refine (HCnt.out _ HS7.out).mono ?_; rintro e _ ⟨rfl, rfl⟩)
      go_loopw [21] (fun i wq => ∃ j : Nat, j ≤ 5 ∧ i = .int .i64 j ∧ St W0 wq (blkP rb #[.bool rok, .int .u64 rv, .int .i64 rlo, .int .i64 rhi] 89 * (taskP kb T1 * memP p M1 * HP.emp))) (fun i _ => 5 - (intOf i).toNat)
      case atStart => exact ⟨0, Nat.zero_le _, rfl, HS7.out⟩
      case round =>
        obtain ⟨j, hj, rfl, hS⟩ := hrel
        have HSj := Lib.hid hS
        obtain ⟨hrc, hrf⟩ := blk_S hS.blk
        have hbt := blk_lt hS.blk
        clear hS
        by_cases hj5 : j < 5
        · have hj5' : (j : Int) < 5 := by omega
          go_wp2_with fail
          go_region_held3 (fun w' => (∀ o, w'.cell? ⟨rb, o, none⟩ = (#[.bool rok, .int .u64 rv, .int .i64 rlo, .int .i64 rhi] : Array Value)[o]?))
            (first | exact fun o => blk_cell HSj.out.drew.blk o | exact fun o => blk_cell (S9.ext q10).blk o | exact fun o => blk_cell S9.blk o)
            (first | (go_at_call 49; refine (HStep.out _ _ HSj.out.drew).mono ?_; rintro e w9 ⟨rfl, S9⟩) | (go_at_call 50; refine (HRep.out _ S9).mono ?_; rintro e w10 ⟨rfl, q10⟩))
          have HS10 := Lib.hid (S9.ext q10)
          clear S9 q10 hrc hrf
          go_wp2_with fail
          go_roundw
          case rel => exact ⟨j + 1, by omega, by go_num, HS10.out⟩
          case measure => simp [intOf]; omega
        · obtain rfl : j = 5 := by omega
          have hfr := HSj.out.frm
          have HQz := Lib.hid (HQ0.out.tr hfr)
          have HKt' := HKt.out
          obtain ⟨r1, r2⟩ := HRr.out
          clear hfr HKt HRr
          cases take
          · have hv0 : rv = 0 := r1 (by rw [← HKt']; simp)
            subst hv0
            go_wp2_with (first | (go_at_call 52; refine (HOver.out _ HSj.out).mono ?_; rintro e _ ⟨rfl, rfl⟩) | (go_at_call 35; refine (HCnt.out _ HSj.out).mono ?_; rintro e _ ⟨rfl, rfl⟩))
            go_ret
            exact ⟨rfl, HQz.out⟩
          · obtain ⟨hl0, hh0⟩ := r2 (by rw [← HKt']; simp)
            subst hl0
            subst hh0
            go_wp2_with (first | (go_at_call 52; refine (HOver.out _ HSj.out).mono ?_; rintro e _ ⟨rfl, rfl⟩) | (go_at_call 35; refine (HCnt.out _ HSj.out).mono ?_; rintro e _ ⟨rfl, rfl⟩))
            go_ret
            exact ⟨rfl, HQz.out⟩

end Go.Proofs.Ytkcimjcmlibgpaa
