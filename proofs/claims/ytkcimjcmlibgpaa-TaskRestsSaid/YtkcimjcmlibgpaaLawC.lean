/-
  The order of places as the laws say it, place by place. Conditions: the places are there; the words are words.
-/
import Derived.Test.YtkcimjcmlibgpaaLawB
namespace Go.Proofs.Ytkcimjcmlibgpaa
open Go.RowKit

theorem Try.fld_st (a b c d e : Int) (w : World) : (Instr.field 59 (.agg #[.int .i64 a, .int .i64 b, .int .i64 c, .int .i64 d, .int .i64 e]) 0).run Try.prog w = .ok (.int .i64 a) w := by kernel_rfl
theorem Try.fld_en (a b c d e : Int) (w : World) : (Instr.field 59 (.agg #[.int .i64 a, .int .i64 b, .int .i64 c, .int .i64 d, .int .i64 e]) 1).run Try.prog w = .ok (.int .i64 b) w := by kernel_rfl
theorem Try.fld_stamp (a b c d e : Int) (w : World) : (Instr.field 59 (.agg #[.int .i64 a, .int .i64 b, .int .i64 c, .int .i64 d, .int .i64 e]) 3).run Try.prog w = .ok (.agg #[.int .i64 d, .int .i64 e]) w := by kernel_rfl

theorem cmpSt_lt1 {a b c d : Int} (h : a < c) : cmpSt a b c d = -1 := by
  unfold cmpSt orI cmpI; rw [if_neg (by rw [if_pos h]; decide), if_pos h]
theorem cmpSt_gt1 {a b c d : Int} (h : c < a) : cmpSt a b c d = 1 := by
  unfold cmpSt orI cmpI; rw [if_neg (by rw [if_neg (by omega), if_pos h]; decide), if_neg (by omega), if_pos h]
theorem cmpSt_eq1 {a b d : Int} : cmpSt a b a d = cmpI b d := by
  unfold cmpSt orI; rw [if_pos (cmpI_zero.2 rfl)]

theorem law01_compare (w : World) (a b c d : Int) :
    Calls Try.prog 89 #[.agg #[.int .i64 a, .int .i64 b], .agg #[.int .i64 c, .int .i64 d]] w fun e w' => e = .returned (.int .i64 (cmpSt a b c d)) ∧ Frm [] w w' := by
  by_cases h1 : a < c
  · rw [cmpSt_lt1 h1]
    go_enter Try.func89, Try.ntmps89
    go_wp2
    go_ret
    exact ⟨rfl, (Frm.alloc _ _ _).tr (Frm.alloc _ _ _)⟩
  · by_cases h2 : c < a
    · rw [cmpSt_gt1 h2]
      have h3 : (a == c) = false := by simp; omega
      have h4 : ¬ a = c := by omega
      have h5 : ¬ c = a := by omega
      clear h1
      go_enter Try.func89, Try.ntmps89
      go_wp2
      go_ret
      exact ⟨rfl, (Frm.alloc _ _ _).tr (Frm.alloc _ _ _)⟩
    · obtain rfl : a = c := by omega
      rw [cmpSt_eq1]
      clear h1 h2
      by_cases h3 : b < d
      · have e : cmpI b d = -1 := by unfold cmpI; rw [if_pos h3]
        rw [e]
        clear e
        go_enter Try.func89, Try.ntmps89
        go_wp2
        go_ret
        exact ⟨rfl, (Frm.alloc _ _ _).tr (Frm.alloc _ _ _)⟩
      · by_cases h4 : d < b
        · have e : cmpI b d = 1 := by unfold cmpI; rw [if_neg h3, if_pos h4]
          rw [e]
          have h5 : (b == d) = false := by simp; omega
          have h6 : ¬ b = d := by omega
          clear e h3
          go_enter Try.func89, Try.ntmps89
          go_wp2
          go_ret
          exact ⟨rfl, (Frm.alloc _ _ _).tr (Frm.alloc _ _ _)⟩
        · obtain rfl : b = d := by omega
          rw [show cmpI b b = 0 from cmpI_zero.2 rfl]
          clear h3 h4
          go_enter Try.func89, Try.ntmps89
          go_wp2
          go_ret
          exact ⟨rfl, (Frm.alloc _ _ _).tr (Frm.alloc _ _ _)⟩

/-- Words that lie in a row and can be read. -/
structure RdW (w : World) (g : Nat) (words : List Int) : Prop where
  lt : g < w.heap.size
  at_ : ∀ k, k < words.length → w.cell? ⟨g, k, none⟩ = some (.int .u64 (words.getD k 0))

theorem RdW.ext {w w' : World} {g : Nat} {words : List Int} (h : RdW w g words) (q : Frm [] w w') : RdW w' g words :=
  ⟨Nat.lt_of_lt_of_le h.lt q.size, fun k hk => by rw [← h.at_ k hk]; exact World.cell?_of_block (a := ⟨g, k, none⟩) (q.block g h.lt (by simp))⟩

theorem cmpSt_cases (a b c d : Int) : (cmpSt a b c d = -1 ∧ cmpSt c d a b = 1) ∨ (cmpSt a b c d = 1 ∧ cmpSt c d a b = -1) ∨ (cmpSt a b c d = 0 ∧ cmpSt c d a b = 0 ∧ a = c ∧ b = d) := by
  by_cases h1 : a < c
  · exact .inl ⟨cmpSt_lt1 h1, cmpSt_gt1 h1⟩
  · by_cases h2 : c < a
    · exact .inr (.inl ⟨cmpSt_gt1 h2, cmpSt_lt1 h2⟩)
    · obtain rfl : a = c := by omega
      rw [cmpSt_eq1, cmpSt_eq1]
      unfold cmpI
      by_cases h3 : b < d
      · rw [if_pos h3, if_neg (by omega), if_pos h3]; simp
      · by_cases h4 : d < b
        · rw [if_neg h3, if_pos h4, if_pos h4]; simp
        · rw [if_neg h3, if_neg h4, if_neg h4, if_neg h3]; refine .inr (.inr ⟨rfl, rfl, rfl, by omega⟩)

/-- Did the thing in place a come later than that in place b? -/
def laterW (words : List Int) (a b : Nat) : Bool := decide (cmpTh (thAt words b) (thAt words a) < 0)

theorem laterW_eq (words : List Int) (a b : Nat) (c : Int) (hc : cmpSt (unpk (words.getD a 0)).lo (unpk (words.getD a 0)).hi (unpk (words.getD b 0)).lo (unpk (words.getD b 0)).hi = c) :
    (c = 1 ∧ laterW words a b = true) ∨ (c = -1 ∧ laterW words a b = false) ∨ (c = 0 ∧ laterW words a b = decide (b < a)) := by
  have h := cmpSt_cases (unpk (words.getD a 0)).lo (unpk (words.getD a 0)).hi (unpk (words.getD b 0)).lo (unpk (words.getD b 0)).hi
  unfold laterW cmpTh thAt
  simp only
  rcases h with ⟨h1, h2⟩ | ⟨h1, h2⟩ | ⟨h1, h2, _⟩
  · rw [h2]; refine .inr (.inl ⟨by omega, ?_⟩); simp [orI]
  · rw [h2]; refine .inl ⟨by omega, ?_⟩; simp [orI]
  · rw [h2]; refine .inr (.inr ⟨by omega, ?_⟩)
    have e : (orI 0 (cmpI (b : Int) (a : Int)) < 0) ↔ b < a := by
      unfold orI; rw [if_pos rfl, cmpI_neg]; omega
    simp [e]

theorem aheadT_eq (words : List Int) (a b : Nat) : aheadT (thAt words a) (thAt words b) = (if (unpk (words.getD a 0)).en = (unpk (words.getD b 0)).en then (if (unpk (words.getD a 0)).en = 0 then laterW words a b else laterW words b a) else decide ((unpk (words.getD a 0)).en = 0)) := rfl

set_option maxRecDepth 100000 in
set_option maxHeartbeats 1000000 in
theorem law08_later (w : World) (g n cap a b : Nat) (words : List Int) (hw : RdW w g words) (hl : words.length = n) (hu : ∀ x ∈ words, U64 x) (ha : a < n) (hb : b < n) :
    Calls Try.prog 78 #[.slice (some ⟨g, 0, none⟩) n cap, .int .i64 a, .int .i64 b] w fun e w' => e = .returned (.bool (laterW words a b)) ∧ Frm [] w w' := by
  have ha0 : (0 : Int) ≤ (a : Int) := Int.natCast_nonneg a
  have hb0 : (0 : Int) ≤ (b : Int) := Int.natCast_nonneg b
  have XA := Lib.hid (hu (words.getD a 0) (by rw [List.getD_eq_getElem?_getD, List.getElem?_eq_getElem (by omega)]; exact List.getElem_mem _))
  have XB := Lib.hid (hu (words.getD b 0) (by rw [List.getD_eq_getElem?_getD, List.getElem?_eq_getElem (by omega)]; exact List.getElem_mem _))
  have hgl := hw.lt
  have HR := Lib.hid hw
  have ca := hw.at_ a (by omega)
  have cb := hw.at_ b (by omega)
  have HL := Lib.hid hl
  have HE := Lib.hid (fun c hc => laterW_eq words a b c hc)
  clear hw hu hl
  have HUA := Lib.hid (fun w' => word_unpack w' (words.getD a 0) XA.out.1 XA.out.2)
  have HUB := Lib.hid (fun w' => word_unpack w' (words.getD b 0) XB.out.1 XB.out.2)
  clear XA XB
  have HRR := Lib.hid (fun (w' : World) (q : Frm [] w w') => (⟨(HR.out.ext q).at_ a (by rw [HL.out]; exact ha), (HR.out.ext q).at_ b (by rw [HL.out]; exact hb)⟩ : w'.cell? ⟨g, a, none⟩ = some (.int .u64 (words.getD a 0)) ∧ w'.cell? ⟨g, b, none⟩ = some (.int .u64 (words.getD b 0))))
  clear HR HL
  generalize words.getD a 0 = xa at *
  generalize words.getD b 0 = xb at *
  generalize laterW words a b = r at *
  generalize unpk xa = ua at *
  generalize unpk xb = ub at *
  obtain ⟨a1, a2, a3, a4, a5⟩ := ua
  obtain ⟨b1, b2, b3, b4, b5⟩ := ub
  simp only at HUA HUB HE
  have hfd := Try.fld_stamp
  go_enter Try.func78, Try.ntmps78
  go_wp2_with fail
  go_region_held3 (fun w' => w'.cell? ⟨g, a, none⟩ = some (.int .u64 xa) ∧ w'.cell? ⟨g, b, none⟩ = some (.int .u64 xb))
    (first | exact HRR.out _ (Frm.drew _ _) | exact HRR.out _ q1 | exact HRR.out _ q2 | exact HRR.out _ q3)
    (first | (go_at_call 29; have _h := q1; refine (HUB.out _).mono ?_; rintro e w2 ⟨rfl, q2'⟩; have q2 := q1.tr q2') | (go_at_call 29; refine (HUA.out _).mono ?_; rintro e w1 ⟨rfl, q1'⟩; have q1 := (Frm.drew [] w).tr q1') | (go_at_call 89; refine (law01_compare _ _ _ _ _).mono ?_; rintro e w3 ⟨rfl, q3'⟩; have q3 := q2.tr q3'))
  have HQ := Lib.hid q3
  clear q1 q2 q3 q1' q2' q3' ca cb HRR HUA HUB hfd
  obtain ⟨c, hc⟩ : ∃ c, cmpSt a4 a5 b4 b5 = c := ⟨_, rfl⟩
  rw [hc]
  rcases HE.out c hc with ⟨rfl, rfl⟩ | ⟨rfl, rfl⟩ | ⟨rfl, hr⟩
  · clear hc HE
    go_wp2
    go_ret
    exact ⟨rfl, HQ.out⟩
  · clear hc HE
    go_wp2
    go_ret
    exact ⟨rfl, HQ.out⟩
  · clear hc HE
    by_cases hab : b < a
    · have hr' : r = true := by rw [hr]; simp [hab]
      have h2 : (b : Int) < (a : Int) := by omega
      subst hr'
      clear hr
      go_wp2
      go_ret
      exact ⟨rfl, HQ.out⟩
    · have hr' : r = false := by rw [hr]; simp; omega
      have h2 : ¬ (b : Int) < (a : Int) := by omega
      subst hr'
      clear hr
      go_wp2
      go_ret
      exact ⟨rfl, HQ.out⟩

set_option maxRecDepth 100000 in
set_option maxHeartbeats 1000000 in
theorem law08_ahead (w : World) (g n cap a b : Nat) (words : List Int) (hw : RdW w g words) (hl : words.length = n) (hu : ∀ x ∈ words, U64 x) (ha : a < n) (hb : b < n) :
    Calls Try.prog 58 #[.slice (some ⟨g, 0, none⟩) n cap, .int .i64 a, .int .i64 b] w fun e w' => e = .returned (.bool (aheadT (thAt words a) (thAt words b))) ∧ Frm [] w w' := by
  have ha0 : (0 : Int) ≤ (a : Int) := Int.natCast_nonneg a
  have hb0 : (0 : Int) ≤ (b : Int) := Int.natCast_nonneg b
  have XA := Lib.hid (hu (words.getD a 0) (by rw [List.getD_eq_getElem?_getD, List.getElem?_eq_getElem (by omega)]; exact List.getElem_mem _))
  have XB := Lib.hid (hu (words.getD b 0) (by rw [List.getD_eq_getElem?_getD, List.getElem?_eq_getElem (by omega)]; exact List.getElem_mem _))
  have hgl := hw.lt
  have HR := Lib.hid hw
  have ca := hw.at_ a (by omega)
  have cb0 := Lib.hid (fun (w' : World) (q : Frm [] w w') => (hw.ext q).at_ b (by omega))
  have HE := Lib.hid (aheadT_eq words a b)
  have en1 : (unpk (words.getD a 0)).en = 0 ∨ (unpk (words.getD a 0)).en = 1 := thAt_en words a
  have en2 : (unpk (words.getD b 0)).en = 0 ∨ (unpk (words.getD b 0)).en = 1 := thAt_en words b
  have HLT := Lib.hid (fun (w' : World) (q : Frm [] w w') => law08_later w' g n cap a b words (hw.ext q) hl hu ha hb)
  have HLU := Lib.hid (fun (w' : World) (q : Frm [] w w') => law08_later w' g n cap b a words (hw.ext q) hl hu hb ha)
  clear hw hu hl
  generalize words.getD a 0 = xa at *
  generalize words.getD b 0 = xb at *
  generalize laterW words a b = r1 at *
  generalize laterW words b a = r2 at *
  obtain ⟨ea, hea⟩ : ∃ x, (unpk xa).en = x := ⟨_, rfl⟩
  obtain ⟨eb, heb⟩ : ∃ x, (unpk xb).en = x := ⟨_, rfl⟩
  rw [hea] at HE en1
  rw [heb] at HE en2
  have HEA := Lib.hid hea
  have HEB := Lib.hid heb
  clear hea heb
  have fin : ∀ r, aheadT (thAt words a) (thAt words b) = r → Ending.returned (.bool r) = .returned (.bool (aheadT (thAt words a) (thAt words b))) := fun r h => by rw [h]
  have hfd := Try.fld_en
  rcases en1 with rfl | rfl <;> rcases en2 with rfl | rfl
  all_goals simp only [if_true, if_false, decide_true, decide_false, Int.reduceEq] at HE
  · go_enter Try.func58, Try.ntmps58
    go_wp2_with (first | (go_at_call 29; have _h := HQ1; refine (word_unpack _ xb XB.out.1 XB.out.2).mono ?_; rw [HEB.out]; clear _h; rintro e w2 ⟨rfl, q2⟩; have HQ2 := Lib.hid (HQ1.out.tr q2); clear q2) | (go_at_call 29; refine (word_unpack _ xa XA.out.1 XA.out.2).mono ?_; rw [HEA.out]; rintro e w1 ⟨rfl, q1⟩; have cb := cb0.out w1 q1; have HQ1 := Lib.hid q1; clear q1; have hg1 := (HR.out.ext HQ1.out).lt) | (go_at_call 78; refine (HLT.out _ HQ2.out).mono ?_; rintro e w3 ⟨rfl, q3⟩))
    go_ret
    exact ⟨fin _ HE.out, HQ2.out.tr q3⟩
  · go_enter Try.func58, Try.ntmps58
    go_wp2_with (first | (go_at_call 29; have _h := HQ1; refine (word_unpack _ xb XB.out.1 XB.out.2).mono ?_; rw [HEB.out]; clear _h; rintro e w2 ⟨rfl, q2⟩; have HQ2 := Lib.hid (HQ1.out.tr q2); clear q2) | (go_at_call 29; refine (word_unpack _ xa XA.out.1 XA.out.2).mono ?_; rw [HEA.out]; rintro e w1 ⟨rfl, q1⟩; have cb := cb0.out w1 q1; have HQ1 := Lib.hid q1; clear q1; have hg1 := (HR.out.ext HQ1.out).lt))
    go_ret
    exact ⟨fin _ HE.out, HQ2.out⟩
  · go_enter Try.func58, Try.ntmps58
    go_wp2_with (first | (go_at_call 29; have _h := HQ1; refine (word_unpack _ xb XB.out.1 XB.out.2).mono ?_; rw [HEB.out]; clear _h; rintro e w2 ⟨rfl, q2⟩; have HQ2 := Lib.hid (HQ1.out.tr q2); clear q2) | (go_at_call 29; refine (word_unpack _ xa XA.out.1 XA.out.2).mono ?_; rw [HEA.out]; rintro e w1 ⟨rfl, q1⟩; have cb := cb0.out w1 q1; have HQ1 := Lib.hid q1; clear q1; have hg1 := (HR.out.ext HQ1.out).lt))
    go_ret
    exact ⟨fin _ HE.out, HQ2.out⟩
  · go_enter Try.func58, Try.ntmps58
    go_wp2_with (first | (go_at_call 29; have _h := HQ1; refine (word_unpack _ xb XB.out.1 XB.out.2).mono ?_; rw [HEB.out]; clear _h; rintro e w2 ⟨rfl, q2⟩; have HQ2 := Lib.hid (HQ1.out.tr q2); clear q2) | (go_at_call 29; refine (word_unpack _ xa XA.out.1 XA.out.2).mono ?_; rw [HEA.out]; rintro e w1 ⟨rfl, q1⟩; have cb := cb0.out w1 q1; have HQ1 := Lib.hid q1; clear q1; have hg1 := (HR.out.ext HQ1.out).lt) | (go_at_call 78; refine (HLU.out _ HQ2.out).mono ?_; rintro e w3 ⟨rfl, q3⟩))
    go_ret
    exact ⟨fin _ HE.out, HQ2.out.tr q3⟩

end Go.Proofs.Ytkcimjcmlibgpaa
