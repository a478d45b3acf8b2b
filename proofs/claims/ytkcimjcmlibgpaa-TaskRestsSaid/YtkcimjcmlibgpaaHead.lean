/-
  stackyardlaw11.head: the document's example holds. No condition.
-/
import Derived.Test.YtkcimjcmlibgpaaLawE
namespace Go.Proofs.Ytkcimjcmlibgpaa
open Go.RowKit

/-- k steps, by itself. -/
def runG (n : Nat) (g : GetS) (m : MemS) : Nat → GetS × MemS
  | 0 => (g, m)
  | k + 1 => GetS.step n (runG n g m k).1 (runG n g m k).2

/-- The blocks K are as they were. -/
def Kept (K : List Nat) (w w' : World) : Prop := ∀ x ∈ K, w'.heap[x]? = w.heap[x]?
theorem Kept.trans {K : List Nat} {a b c : World} (h : Kept K a b) (k : Kept K b c) : Kept K a c := fun x hx => (k x hx).trans (h x hx)
theorem IsGet.kept {w w' : World} {gb : Nat} {G : List Nat} {g : GetS} (h : IsGet w gb G g) (k : Kept G w w') : IsGet w' gb G g := by
  rcases h.ex with ⟨sb, wb, e, rfl, h1, h2, h3⟩ | ⟨t, tb, sp, e, rfl, h1, h2, h3⟩
  · exact ⟨.inl ⟨sb, wb, e, rfl, blk_same h1 (k _ (by simp)), ⟨blk_same h2.row (k _ (by simp)), blk_same h2.words (k _ (by simp)), h2.ne⟩, h3⟩⟩
  · exact ⟨.inr ⟨t, tb, sp, e, rfl, blk_same h1 (k _ (by simp)), blk_same h2 (k _ (by simp)), h3⟩⟩

/-- A Get and its cells in memory that the call itself made behind W0; K: blocks of others. -/
structure Run (W0 w : World) (gb p n : Nat) (K : List Nat) (g : GetS) (m : MemS) : Prop where
  ex : ∃ F G, IsGet w gb G g ∧ IsMem w p F m ∧ (∀ x ∈ G, x ∉ F) ∧ (∀ x ∈ F, W0.heap.size ≤ x) ∧ (∀ x ∈ G, W0.heap.size ≤ x) ∧ (∀ x ∈ K, x ∉ F ∧ x ∉ G ∧ x < w.heap.size)
  ok : g.Ok n m
  frm : Frm [] W0 w

theorem Run.step {W0 w : World} {gb p n : Nat} {K : List Nat} {g : GetS} {m : MemS} (h : Run W0 w gb p n K g m) (hlog : m.log.length < 1099511627775) :
    Calls Try.prog 21 #[.pointer (some ⟨gb, 0, none⟩), .pointer (some ⟨p, 0, none⟩)] w fun e w' => e = .returned (.int .i64 (g.step n m).1.phase) ∧ Run W0 w' gb p n K (g.step n m).1 (g.step n m).2 ∧ Kept K w w' := by
  obtain ⟨⟨F, G, hg, hm, hd, hF, hG, hK⟩, ho, hq⟩ := h
  refine (get_step w gb p n F G m g hg hm hd ho hlog).mono ?_
  rintro e w' ⟨he, F', G', hg', hm', hu, hd'⟩
  have new : ∀ x, x ∈ G' ∨ x ∈ F' → x ∈ G ∨ x ∈ F ∨ w.heap.size ≤ x := fun x hx => by
    rcases hu.grows x (by simpa using hx) with h | h
    · rcases List.mem_append.1 h with h | h
      · exact .inl h
      · exact .inr (.inl h)
    · exact .inr (.inr h)
  have fresh : ∀ x, x ∈ G' ∨ x ∈ F' → W0.heap.size ≤ x := fun x hx => by
    rcases new x hx with h | h | h
    · exact hG x h
    · exact hF x h
    · exact Nat.le_trans hq.size h
  refine ⟨he, ⟨⟨F', G', hg', hm', hd', fun x hx => fresh x (.inr hx), fun x hx => fresh x (.inl hx), fun x hx => ?_⟩, get_step_ok n g m ho (U64_at hm), ?_⟩, fun x hx => ?_⟩
  · obtain ⟨k1, k2, k3⟩ := hK x hx
    refine ⟨fun h => ?_, fun h => ?_, Nat.lt_of_lt_of_le k3 hu.size⟩
    · rcases new x (.inr h) with h | h | h
      · exact k2 h
      · exact k1 h
      · omega
    · rcases new x (.inl h) with h | h | h
      · exact k2 h
      · exact k1 h
      · omega
  · exact hq.trans hu.toFrm (fun _ _ h => h) (fun x hx _ hm => by
      rcases List.mem_append.1 hm with h | h
      · have := hG x h; omega
      · have := hF x h; omega)
  · obtain ⟨k1, k2, k3⟩ := hK x hx
    exact hu.block x k3 (fun h => by
      rcases List.mem_append.1 h with h | h
      · exact k2 h
      · exact k1 h)

theorem Run.phase {W0 w : World} {gb p n : Nat} {K : List Nat} {g : GetS} {m : MemS} (h : Run W0 w gb p n K g m) :
    Calls Try.prog 22 #[.pointer (some ⟨gb, 0, none⟩)] w fun e w' => e = .returned (.int .i64 g.phase) ∧ w = w' := by
  obtain ⟨⟨F, G, hg, _⟩, _⟩ := h
  exact get_phase w gb G g hg
theorem Run.value {W0 w : World} {gb p n : Nat} {K : List Nat} {g : GetS} {m : MemS} (h : Run W0 w gb p n K g m) :
    Calls Try.prog 23 #[.pointer (some ⟨gb, 0, none⟩)] w fun e w' => e = .returned (.int .u64 g.value) ∧ w = w' := by
  obtain ⟨⟨F, G, hg, _⟩, _⟩ := h
  exact get_value w gb G g hg

def cfH : Cf := ⟨2, 2, 0, 0⟩
def headG (start : Int) : GetS := get0 cfH 0 4 0 start
def headM : MemS := ((runG 4 (headG 0) (mem0 4 2) 8).2.put (-1) 1 3 (Wd.pack ⟨1, 0, 1, 0, 0⟩) true).put (-1) 1 7 5 true

theorem head_a : (∀ k, k < 8 → (runG 4 (headG 0) (mem0 4 2) k).1.phase = 0) ∧ (runG 4 (headG 0) (mem0 4 2) 8).1.phase = 2 := by decide +kernel
theorem head_b : (∀ k, k < 13 → (runG 4 (headG 1) headM k).1.phase = 0) ∧ (runG 4 (headG 1) headM 13).1.phase = 1 ∧ (runG 4 (headG 1) headM 13).1.value = 5 := by decide +kernel
theorem head_la : ∀ k, k < 9 → (runG 4 (headG 0) (mem0 4 2) k).2.log.length < 100 := by decide +kernel
theorem head_lb : ∀ k, k < 14 → (runG 4 (headG 1) headM k).2.log.length < 100 := by decide +kernel

set_option maxRecDepth 100000 in
set_option maxHeartbeats 2000000 in
theorem law_head (w : World) : Calls Try.prog 13 #[] w fun e w' => e = .returned (.bool true) ∧ Frm [] w w' := by
  have HB := Lib.hid (blk_new w #[.int .i64 2, .int .i64 2, .int .i64 0, .int .i64 0] 27)
  have hbt := blk_lt HB.out
  have HQ0 := Lib.hid (Frm.alloc [] w (.cells #[.int .i64 2, .int .i64 2, .int .i64 0, .int .i64 0] 27))
  go_enter Try.func13, Try.ntmps13
  go_wp2_with (first | (go_at_call 46; refine (lay_cells _ 2 2 0 0 (by omega) (by omega) 4 rfl).mono ?_; rintro e w1 ⟨rfl, q1⟩; have HB1 := Lib.hid (blk_frm HB.out q1 (by simp)); have HQ1 := Lib.hid q1; clear q1) | (go_at_call 45; refine (mem_new _ 12 (by omega) (by omega)).mono ?_; rintro e w2 ⟨p, F, rfl, M2, hF, q2⟩; have HB2 := Lib.hid (blk_frm HB1.out q2 (by simp)); obtain ⟨hrc, hrf⟩ := blk_S HB2.out; have hb2 := blk_lt HB2.out; have HM2 := Lib.hid M2; have HF := Lib.hid hF; have HQ2 := Lib.hid q2; clear M2 hF q2) | (go_at_call 18; refine (get_new _ 2 2 0 4 0 0 0 0 (by omega) (by omega) rfl (by omega)).mono ?_; rintro e w3 ⟨gb, G, rfl, G3, q3, hG⟩; have HB3 := Lib.hid (blk_frm HB2.out q3 (by simp)); have HG3 := Lib.hid G3; have HQ3 := Lib.hid q3; have HG := Lib.hid hG; clear G3 q3 hG hrc hrf))
  obtain ⟨W0, hW0⟩ : ∃ W0, w.alloc (.cells #[.int .i64 2, .int .i64 2, .int .i64 0, .int .i64 0] 27) = W0 := ⟨_, rfl⟩
  rw [hW0] at HB hbt HQ0 HQ1
  clear hW0
  have HR : Hid (Run W0 w3 gb p 4 [] (runG 4 (headG 0) (mem0 4 2) 0).1 (runG 4 (headG 0) (mem0 4 2) 0).2) := by
    refine ⟨⟨F, G, HG3.out, HM2.out.ext HQ3.out, fun x hx hm => ?_, fun x hx => Nat.le_trans HQ1.out.size (HF.out x hx), fun x hx => Nat.le_trans (HQ1.out.tr HQ2.out).size (HG.out x hx), by simp⟩, get0_ok cfH 0 4 0 0 (mem0 4 2) ⟨rfl, by decide, by decide, by decide, by decide, rfl⟩ (by decide) (.inl rfl), (HQ1.out.tr HQ2.out).tr HQ3.out⟩
    have := HM2.out.lt x hm
    have := HG.out x hx
    omega
  clear HM2 HF HG3 HG HB1 HB2 HB3 HQ1 HQ2 HQ3
  go_wp2_with fail
  go_loopw [4] (fun i wq => ∃ k : Nat, k ≤ 8 ∧ i = .int .i64 k ∧ Run W0 wq gb p 4 [] (runG 4 (headG 0) (mem0 4 2) k).1 (runG 4 (headG 0) (mem0 4 2) k).2) (fun i _ => 8 - (intOf i).toNat)
  case atStart => exact ⟨0, Nat.zero_le _, rfl, HR.out⟩
  case round =>
    obtain ⟨k, hk, rfl, hr⟩ := hrel
    have HPh := Lib.hid hr.phase
    have HSt := Lib.hid (hr.step (Nat.lt_trans (head_la k (by omega)) (by decide)))
    have HRk := Lib.hid hr
    clear hr
    by_cases hk8 : k < 8
    · rw [head_a.1 k hk8] at HPh
      have hk50 : (k : Int) < 50 := by omega
      go_wp2_with (first | (go_at_call 22; refine HPh.out.mono ?_; rintro e _ ⟨rfl, rfl⟩) | (go_at_call 21; refine HSt.out.mono ?_; rintro e w4 ⟨rfl, r4, _⟩; have HR4 := Lib.hid r4; clear r4))
      go_roundw
      case rel => exact ⟨k + 1, by omega, by go_num, HR4.out⟩
      case measure => simp [intOf]; omega
    · obtain rfl : k = 8 := by omega
      rw [head_a.2] at HPh
      have h8 : (runG 4 (headG 0) (mem0 4 2) 8).1.phase = 2 := head_a.2
      clear HSt hk8 hk
      obtain ⟨⟨F1, G1, hg1, hm1, hd1, hF1, hG1, _⟩, hok1, hq1⟩ := HRk.out
      have HG1 := Lib.hid hg1
      have HM1 := Lib.hid hm1
      have HX1 := Lib.hid (And.intro hd1 (And.intro hF1 hG1))
      have HO1 := Lib.hid hok1
      have HB1 := Lib.hid (blk_frm HB.out hq1 (by simp))
      have HQ1 := Lib.hid hq1
      obtain ⟨hrc, hrf⟩ := blk_S HB1.out
      have hb1 := blk_lt HB1.out
      have HH8 := Lib.hid h8
      have hlen : (runG 4 (headG 0) (mem0 4 2) 8).2.cells.length = 12 := hok1.fits.len
      have hlog := head_la 8 (by omega)
      have HHM := Lib.hid (show headM = (((runG 4 (headG 0) (mem0 4 2) 8).2.put (-1) 1 3 (Wd.pack ⟨1, 0, 1, 0, 0⟩) true).put (-1) 1 7 5 true) from rfl)
      generalize runG 4 (headG 0) (mem0 4 2) 8 = r8 at *
      obtain ⟨g8, m8⟩ := r8
      simp only at hlen hlog hm1 hg1 hok1 HM1 HG1 HO1 HH8 HHM HPh
      have HS1 := Lib.hid (fun w' (q : Frm [] wr w') => mem_store w' p F1 _ (-1) (Wd.pack ⟨1, 0, 1, 0, 0⟩) 3 (hm1.ext q) (by omega) (by omega) ⟨by decide, by decide⟩)
      have HS2 := Lib.hid (fun w' F' (m' : MemS) (_ : Unit) (M : IsMem w' p F' m') h1 h2 => mem_store w' p F' m' (-1) 5 7 M h1 h2 ⟨by decide, by decide⟩)
      have HFX := Lib.hid (fun (wa wb : World) (F' : List Nat) (q : Frm [] wr wa) (u : Upd F1 F' wa wb) => (⟨fun x hx => by
          rcases u.grows x hx with h | h
          · exact hF1 x h
          · exact Nat.le_trans (hq1.tr q).size h, fun x hx h => by
          rcases u.grows x h with h | h
          · exact hd1 x hx h
          · have := hg1.lt x hx; have := q.size; omega, (hg1.frm q (by simp)).frm u.toFrm hd1, (hq1.tr q).trans u.toFrm (fun _ _ h => h) (fun x hx _ hm => by have := hF1 x hm; omega)⟩ : (∀ x ∈ F', W0.heap.size ≤ x) ∧ (∀ x ∈ G1, x ∉ F') ∧ IsGet wb gb G1 _ ∧ Frm [] W0 wb))
      clear HRk hg1 hm1 hd1 hF1 hG1 hok1 hq1 h8
      go_wp2_with (first | (go_at_call 22; refine HPh.out.mono ?_; rintro e _ ⟨rfl, rfl⟩) | (go_at_call 30; refine (lay_word _ 2 2 0 0 3).mono ?_; rintro e w5 ⟨rfl, q5⟩; have HQ5 := Lib.hid q5; clear q5) | (go_at_call 33; refine (word_pack _ ⟨1, 0, 1, 0, 0⟩ ⟨by decide, by decide, by decide, by decide, by decide, by decide, by decide, by decide, by decide, by decide⟩).mono ?_; rintro e w6 ⟨rfl, q6⟩; have HQ6 := Lib.hid (HQ5.out.tr q6); clear q6))
      refine (HS1.out w6 HQ6.out).mono ?_
      rintro e w7 ⟨rfl, F7, M7, u7⟩
      have HM7 := Lib.hid M7
      have HF7 := Lib.hid (HFX.out w6 w7 F7 HQ6.out u7)
      have HB7 := Lib.hid (blk_frm HB.out HF7.out.2.2.2 (by simp))
      clear hrc hrf M7 u7
      obtain ⟨hrc, hrf⟩ := blk_S HB7.out
      have hb7 := blk_lt HB7.out
      go_wp2_with (first | (go_at_call 25; refine (lay_value _ 2 2 0 0 (by omega) (by omega) 3 (by omega) 4 rfl).mono ?_; rintro e w8 ⟨rfl, q8⟩; have HQ8 := Lib.hid q8; clear q8))
      have hl7 : 7 < (m8.put (-1) 1 3 (Wd.pack ⟨1, 0, 1, 0, 0⟩) true).cells.length := by rw [put_cells_len]; omega
      have hk7 : (m8.put (-1) 1 3 (Wd.pack ⟨1, 0, 1, 0, 0⟩) true).log.length < 1099511627776 := by rw [put_log]; omega
      refine (mem_store w8 p F7 _ (-1) 5 7 (HM7.out.ext HQ8.out) hl7 hk7 ⟨by decide, by decide⟩).mono ?_
      rintro e w9 ⟨rfl, F9, M9, u9⟩
      have hG9 : ∀ x ∈ G1, x ∉ F9 ∧ x < w9.heap.size := fun x hx => by
        have h1 := HF7.out.2.2.1.lt x hx
        have h2 := HQ8.out.size
        refine ⟨fun h => ?_, by have := u9.size; omega⟩
        rcases u9.grows x h with h | h
        · exact HF7.out.2.1 x hx h
        · omega
      have HG9 := Lib.hid hG9
      have HI9 := Lib.hid ((HF7.out.2.2.1.frm HQ8.out (by simp)).frm u9.toFrm HF7.out.2.1)
      have HP9 := Lib.hid ((HF7.out.2.2.2.tr HQ8.out).trans u9.toFrm (fun _ _ h => h) (fun x hx _ hm => by have := HF7.out.1 x hm; omega))
      have HF9 := Lib.hid (fun x (hx : x ∈ F9) => show W0.heap.size ≤ x from by
        rcases u9.grows x hx with h | h
        · exact HF7.out.1 x h
        · exact Nat.le_trans (HF7.out.2.2.2.tr HQ8.out).size h)
      have HM9 := Lib.hid M9
      have HB9 := Lib.hid (blk_frm HB.out HP9.out (by simp))
      clear hrc hrf M9 u9 hG9
      obtain ⟨hrc, hrf⟩ := blk_S HB9.out
      have hb9 := blk_lt HB9.out
      go_wp2_with (first | (go_at_call 18; refine (get_new _ 2 2 0 4 0 0 0 1 (by omega) (by omega) rfl (by omega)).mono ?_; rintro e wA ⟨gc, GA, rfl, gA, qA, fA⟩; have HGA := Lib.hid gA; have HQA := Lib.hid qA; have HFA := Lib.hid fA; clear gA qA fA hrc hrf))
      have HR2 : Hid (Run W0 wA gc p 4 G1 (runG 4 (headG 1) headM 0).1 (runG 4 (headG 1) headM 0).2 ∧ IsGet wA gb G1 g8) := by
        refine ⟨⟨⟨F9, GA, HGA.out, ?_, fun x hx hm => ?_, HF9.out, fun x hx => Nat.le_trans HP9.out.size (HFA.out x hx), fun x hx => ⟨(HG9.out x hx).1, fun h => ?_, Nat.lt_of_lt_of_le (HG9.out x hx).2 HQA.out.size⟩⟩, get0_ok cfH 0 4 0 1 headM ⟨rfl, by decide, by decide, by decide, by decide, ?_⟩ (by decide) (.inl rfl), HP9.out.tr HQA.out⟩, HI9.out.frm HQA.out (by simp)⟩
        · show IsMem wA p F9 headM
          rw [HHM.out]; exact HM9.out.ext HQA.out
        · have := HM9.out.lt x hm
          have := HFA.out x hx
          omega
        · have := (HG9.out x hx).2
          have := HFA.out x h
          omega
        · rw [HHM.out, put_cells_len, put_cells_len]; exact hlen
      clear HM7 HF7 HB7 HM9 HG9 HI9 HF9 HP9 HGA HQA HFA HS1 HS2 HFX HX1 HG1 HM1 HO1 HPh HR
      go_wp2_with fail
      go_loopw [6] (fun i wq => ∃ k : Nat, k ≤ 13 ∧ i = .int .i64 k ∧ Run W0 wq gc p 4 G1 (runG 4 (headG 1) headM k).1 (runG 4 (headG 1) headM k).2 ∧ IsGet wq gb G1 g8) (fun i _ => 13 - (intOf i).toNat)
      case atStart => exact ⟨0, Nat.zero_le _, rfl, HR2.out⟩
      case round =>
        obtain ⟨k, hk, rfl, hr, hi⟩ := hrel
        have HPh := Lib.hid hr.phase
        have HSt := Lib.hid (hr.step (Nat.lt_trans (head_lb k (by omega)) (by decide)))
        have HRk := Lib.hid hr
        have HIk := Lib.hid hi
        have HVk := Lib.hid hr.value
        have HP1 := Lib.hid (get_phase wr gb G1 g8 hi)
        rw [HH8.out] at HP1
        clear hr hi
        by_cases hk8 : k < 13
        · rw [head_b.1 k hk8] at HPh
          have hk50 : (k : Int) < 50 := by omega
          clear HP1 HVk
          go_wp2_with (first | (go_at_call 22; refine HPh.out.mono ?_; rintro e _ ⟨rfl, rfl⟩) | (go_at_call 21; refine HSt.out.mono ?_; rintro e w4 ⟨rfl, r4, k4⟩; have HR4 := Lib.hid (And.intro r4 (HIk.out.kept k4)); clear r4 k4))
          go_roundw
          case rel => exact ⟨k + 1, by omega, by go_num, HR4.out⟩
          case measure => simp [intOf]; omega
        · obtain rfl : k = 13 := by omega
          rw [head_b.2.1] at HPh
          rw [head_b.2.2] at HVk
          have HBk := Lib.hid (blk_frm HB.out HRk.out.frm (by simp))
          have HQk := Lib.hid (HQ0.out.tr HRk.out.frm)
          obtain ⟨hrc, hrf⟩ := blk_S HBk.out
          have hbk := blk_lt HBk.out
          clear HSt hk8 hk HRk HIk
          go_wp2_with fail
          refine HPh.out.mono ?_
          rintro e _ ⟨rfl, rfl⟩
          go_wp2_with fail
          refine HP1.out.mono ?_
          rintro e _ ⟨rfl, rfl⟩
          go_wp2_with fail
          refine HPh.out.mono ?_
          rintro e _ ⟨rfl, rfl⟩
          go_wp2_with fail
          refine HVk.out.mono ?_
          rintro e _ ⟨rfl, rfl⟩
          go_wp2_with fail
          refine (get_alone _ 2 2 4 0 0 (by omega) (by omega) rfl).mono ?_
          rintro e wZ ⟨rfl, qZ⟩
          have HQZ := Lib.hid (HQk.out.tr qZ)
          clear qZ
          go_wp2
          go_ret
          exact ⟨rfl, HQZ.out⟩

end Go.Proofs.Ytkcimjcmlibgpaa
