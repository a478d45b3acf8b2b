/-
  Package lay: which cell is for what. Conditions: from 1 to 64 threads, from 1 to 64 places each; a place or thread below 4097.
-/
import Derived.Test.YtkcimjcmlibgpaaBase
namespace Go.Proofs.Ytkcimjcmlibgpaa
open Go.RowKit

theorem wrap_mul (t s : Nat) (ht : t ≤ 64) (hs : s ≤ 64) : wrap64 ((t : Int) * (s : Int)) = ((t * s : Nat) : Int) := by
  have h1 : t * s ≤ 64 * 64 := Nat.mul_le_mul ht hs
  have h2 : ((t : Int) * (s : Int)) = ((t * s : Nat) : Int) := by simp
  rw [h2]; unfold wrap64; omega

theorem mul_le (t s : Nat) (ht : t ≤ 64) (hs : s ≤ 64) : t * s ≤ 4096 := Nat.mul_le_mul ht hs

theorem lay_all (w : World) (t s : Nat) (src del : Int) (ht : t ≤ 64) (hs : s ≤ 64) (n : Nat) (hn : n = t * s) :
    Calls Try.prog 26 #[.agg #[.int .i64 t, .int .i64 s, .int .i64 src, .int .i64 del]] w fun e w' => e = .returned (.int .i64 n) ∧ Frm [] w w' := by
  have hm := wrap_mul t s ht hs
  rw [← hn] at hm
  have HM := Lib.hid hm
  clear hm hn
  go_enter Try.func26, Try.ntmps26
  go_wp2
  go_ret
  exact ⟨ret_i HM.out, Frm.alloc _ _ _⟩

theorem lay_word (w : World) (t s src del : Int) (k : Int) :
    Calls Try.prog 30 #[.agg #[.int .i64 t, .int .i64 s, .int .i64 src, .int .i64 del], .int .i64 k] w fun e w' => e = .returned (.int .i64 k) ∧ Frm [] w w' := by
  go_enter Try.func30, Try.ntmps30
  go_wp2
  go_ret
  exact ⟨rfl, Frm.alloc _ _ _⟩

theorem lay_value (w : World) (t s : Nat) (src del : Int) (ht : t ≤ 64) (hs : s ≤ 64) (k : Nat) (hk : k ≤ 100000) (n : Nat) (hn : n = t * s) :
    Calls Try.prog 25 #[.agg #[.int .i64 t, .int .i64 s, .int .i64 src, .int .i64 del], .int .i64 k] w fun e w' => e = .returned (.int .i64 (n + k : Nat)) ∧ Frm [] w w' := by
  have hm := mul_le t s ht hs
  rw [← hn] at hm
  have HN := Lib.hid hn
  clear hn
  go_enter Try.func25, Try.ntmps25
  go_wp2_with (go_at_call 26; refine (lay_all _ t s src del ht hs n HN.out).mono ?_; rintro e w' ⟨rfl, h⟩)
  go_ret
  exact ⟨ret_i (by omega), (Frm.alloc _ _ _).tr h⟩

theorem lay_hazard (w : World) (t s : Nat) (src del : Int) (ht : t ≤ 64) (hs : s ≤ 64) (k : Nat) (hk : k ≤ 100000) (n : Nat) (hn : n = t * s) :
    Calls Try.prog 28 #[.agg #[.int .i64 t, .int .i64 s, .int .i64 src, .int .i64 del], .int .i64 k] w fun e w' => e = .returned (.int .i64 (2 * n + k : Nat)) ∧ Frm [] w w' := by
  have hm := mul_le t s ht hs
  rw [← hn] at hm
  have HN := Lib.hid hn
  clear hn
  go_enter Try.func28, Try.ntmps28
  go_wp2_with (go_at_call 26; refine (lay_all _ t s src del ht hs n HN.out).mono ?_; rintro e w' ⟨rfl, h⟩)
  go_ret
  exact ⟨ret_i (by omega), (Frm.alloc _ _ _).tr h⟩

theorem lay_first (w : World) (t s : Nat) (src del : Int) (hs : s ≤ 64) (k : Nat) (hk : k ≤ 64) :
    Calls Try.prog 88 #[.agg #[.int .i64 t, .int .i64 s, .int .i64 src, .int .i64 del], .int .i64 k] w fun e w' => e = .returned (.int .i64 (k * s : Nat)) ∧ Frm [] w w' := by
  have HM := Lib.hid (wrap_mul k s hk hs)
  go_enter Try.func88, Try.ntmps88
  go_wp2
  go_ret
  exact ⟨ret_i HM.out, Frm.alloc _ _ _⟩

set_option maxHeartbeats 400000 in
theorem lay_number (w : World) (t s : Nat) (src del : Int) (ht : t ≤ 64) (hs : s ≤ 64) (k : Nat) (hk : k ≤ 100000) (n : Nat) (hn : n = t * s) :
    Calls Try.prog 85 #[.agg #[.int .i64 t, .int .i64 s, .int .i64 src, .int .i64 del], .int .i64 k] w fun e w' => e = .returned (.int .i64 (2 * n + t + k : Nat)) ∧ Frm [] w w' := by
  have hm := mul_le t s ht hs
  rw [← hn] at hm
  have HN := Lib.hid hn
  clear hn
  go_enter Try.func85, Try.ntmps85
  go_wp2_with fail
  go_region_held3 (fun w' => (∀ o, w'.cell? ⟨w.heap.size, o, none⟩ = (#[.int .i64 t, .int .i64 s, .int .i64 src, .int .i64 del] : Array Value)[o]?))
    (first | exact fun o => blk_cell (blk_drew (blk_new w _ 27)) o | exact fun o => blk_cell (blk_frm (blk_drew (blk_new w _ 27)) h (by simp)) o)
    ((go_at_call 26; refine (lay_all _ t s src del ht hs n HN.out).mono ?_; rintro e w' ⟨rfl, h⟩))
  go_wp2
  go_ret
  exact ⟨ret_i (by simp only [IntKind.wrap_i64]; omega), (Frm.alloc _ _ _).tr ((Frm.drew _ _).tr h)⟩

set_option maxHeartbeats 400000 in
theorem lay_cells (w : World) (t s : Nat) (src del : Int) (ht : t ≤ 64) (hs : s ≤ 64) (n : Nat) (hn : n = t * s) :
    Calls Try.prog 46 #[.agg #[.int .i64 t, .int .i64 s, .int .i64 src, .int .i64 del]] w fun e w' => e = .returned (.int .i64 (2 * n + 2 * t : Nat)) ∧ Frm [] w w' := by
  have hm := mul_le t s ht hs
  rw [← hn] at hm
  have HN := Lib.hid hn
  clear hn
  go_enter Try.func46, Try.ntmps46
  go_wp2_with fail
  go_region_held3 (fun w' => (∀ o, w'.cell? ⟨w.heap.size, o, none⟩ = (#[.int .i64 t, .int .i64 s, .int .i64 src, .int .i64 del] : Array Value)[o]?))
    (first | exact fun o => blk_cell (blk_drew (blk_new w _ 27)) o | exact fun o => blk_cell (blk_frm (blk_drew (blk_new w _ 27)) h (by simp)) o)
    ((go_at_call 26; refine (lay_all _ t s src del ht hs n HN.out).mono ?_; rintro e w' ⟨rfl, h⟩))
  go_wp2
  go_ret
  exact ⟨ret_i (by simp only [IntKind.wrap_i64]; omega), (Frm.alloc _ _ _).tr ((Frm.drew _ _).tr h)⟩

end Go.Proofs.Ytkcimjcmlibgpaa
