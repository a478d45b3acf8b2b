/-
  Packages cmp and stamp: comparing. Conditions: none but the numbers' own.
-/
import Derived.Test.YtkcimjcmlibgpaaBase
import Derived.Handy
namespace Go.Proofs.Ytkcimjcmlibgpaa
open Go.RowKit

def cmpI (x y : Int) : Int := if x < y then -1 else if y < x then 1 else 0
def orI (x y : Int) : Int := if x = 0 then y else x
def cmpSt (a b c d : Int) : Int := orI (cmpI a c) (cmpI b d)
def stOk (lo hi : Int) : Prop := 0 ≤ lo ∧ lo ≤ hi ∧ hi < 16777215

theorem isNaN_any (w : World) (x : Int) :
    Calls Try.prog 110 #[.int .i64 x] w fun e w' => e = .returned (.bool false) ∧ w = w' := by
  go_enter Try.func110, Try.ntmps110
  go_wp2
  go_ret
  exact ⟨rfl, rfl⟩

theorem cmp_compare (w : World) (x y : Int) :
    Calls Try.prog 99 #[.int .i64 x, .int .i64 y] w fun e w' => e = .returned (.int .i64 (cmpI x y)) ∧ w = w' := by
  rcases Int.lt_trichotomy x y with h | h | h
  · have e : cmpI x y = -1 := if_pos h
    have E := Lib.hid e
    clear e
    go_enter Try.func99, Try.ntmps99
    go_wp2_with (go_at_call 110; refine (isNaN_any _ _).mono ?_; rintro e w' ⟨rfl, rfl⟩)
    go_ret
    exact ⟨ret_i E.out.symm, rfl⟩
  · subst h
    have e : cmpI x x = 0 := by unfold cmpI; rw [if_neg (by omega), if_neg (by omega)]
    have E := Lib.hid e
    clear e
    go_enter Try.func99, Try.ntmps99
    go_wp2_with (go_at_call 110; refine (isNaN_any _ _).mono ?_; rintro e w' ⟨rfl, rfl⟩)
    go_ret
    exact ⟨ret_i E.out.symm, rfl⟩
  · have e : cmpI x y = 1 := by unfold cmpI; rw [if_neg (by omega), if_pos h]
    have E := Lib.hid e
    clear e
    go_enter Try.func99, Try.ntmps99
    go_wp2_with (go_at_call 110; refine (isNaN_any _ _).mono ?_; rintro e w' ⟨rfl, rfl⟩)
    go_ret
    exact ⟨ret_i E.out.symm, rfl⟩

theorem cmp_or (w : World) (b c : Nat) (x y : Int) (c0 : w.cell? ⟨b, 0, none⟩ = some (.int .i64 x)) (c1 : w.cell? ⟨b, 1, none⟩ = some (.int .i64 y)) :
    Calls Try.prog 97 #[.slice (some ⟨b, 0, none⟩) 2 c] w fun e w' => e = .returned (.int .i64 (orI x y)) ∧ w = w' := by
  by_cases hx : x = 0
  · by_cases hy : y = 0
    · have E := Lib.hid (show orI x y = 0 by subst hx; subst hy; rfl)
      subst hx
      subst hy
      go_enter Try.func97, Try.ntmps97
      go_wp2
      go_rounds 3
      go_ret
      exact ⟨ret_i E.out.symm, rfl⟩
    · have hy' : (y == 0) = false := by simpa using hy
      have E := Lib.hid (show orI x y = y by subst hx; rfl)
      clear hy
      subst hx
      go_enter Try.func97, Try.ntmps97
      go_wp2
      go_rounds 3
      go_ret
      exact ⟨ret_i E.out.symm, rfl⟩
  · have hy' : (x == 0) = false := by simpa using hx
    have E := Lib.hid (show orI x y = x from if_neg hx)
    clear hx
    go_enter Try.func97, Try.ntmps97
    go_wp2
    go_rounds 2
    go_ret
    exact ⟨ret_i E.out.symm, rfl⟩

theorem stamp_right_yes (w : World) (lo hi : Int) (h : stOk lo hi) :
    Calls Try.prog 51 #[.agg #[.int .i64 lo, .int .i64 hi]] w fun e w' => e = .returned (.bool true) ∧ Frm [] w w' := by
  obtain ⟨h0, h1, h2⟩ := h
  go_enter Try.func51, Try.ntmps51
  go_wp2
  go_ret
  exact ⟨rfl, Frm.alloc _ _ _⟩

theorem stamp_right_no (w : World) (lo hi : Int) (h : ¬ stOk lo hi) :
    Calls Try.prog 51 #[.agg #[.int .i64 lo, .int .i64 hi]] w fun e w' => e = .returned (.bool false) ∧ Frm [] w w' := by
  by_cases h0 : 0 ≤ lo
  · by_cases h1 : lo ≤ hi
    · have h2 : 16777215 ≤ hi := by unfold stOk at h; omega
      clear h
      go_enter Try.func51, Try.ntmps51
      go_wp2
      go_ret
      exact ⟨ret_b (by simpa using h2), Frm.alloc _ _ _⟩
    · have h2 : hi < lo := by omega
      clear h h1
      go_enter Try.func51, Try.ntmps51
      go_wp2
      go_ret
      exact ⟨rfl, Frm.alloc _ _ _⟩
  · have h2 : lo < 0 := by omega
    clear h h0
    go_enter Try.func51, Try.ntmps51
    go_wp2
    go_ret
    exact ⟨rfl, Frm.alloc _ _ _⟩

set_option maxHeartbeats 400000 in
theorem stamp_compare (w : World) (a b c d : Int) :
    Calls Try.prog 98 #[.agg #[.int .i64 a, .int .i64 b], .agg #[.int .i64 c, .int .i64 d]] w fun e w' => e = .returned (.int .i64 (cmpSt a b c d)) ∧ Frm [] w w' := by
  have hb0 : Blk ((w.alloc (.cells #[.int .i64 a, .int .i64 b] 57)).alloc (.cells #[.int .i64 c, .int .i64 d] 57)) w.heap.size #[.int .i64 a, .int .i64 b] 57 := blk_alloc (blk_new _ _ _) _
  have hb1 : Blk ((w.alloc (.cells #[.int .i64 a, .int .i64 b] 57)).alloc (.cells #[.int .i64 c, .int .i64 d] 57)) (w.heap.size + 1) #[.int .i64 c, .int .i64 d] 57 := by
    have := blk_new (w.alloc (.cells #[.int .i64 a, .int .i64 b] 57)) #[.int .i64 c, .int .i64 d] 57
    rw [size_al] at this; exact this
  have H0 := Lib.hid hb0
  have H1 := Lib.hid hb1
  clear hb0 hb1
  go_enter Try.func98, Try.ntmps98
  go_wp2_with fail
  go_region_held3 (fun w' => (∀ o, w'.cell? ⟨w.heap.size, o, none⟩ = (#[.int .i64 a, .int .i64 b] : Array Value)[o]?) ∧ (∀ o, w'.cell? ⟨w.heap.size + 1, o, none⟩ = (#[.int .i64 c, .int .i64 d] : Array Value)[o]?))
    (first | exact ⟨fun o => blk_cell (blk_drew H0.out) o, fun o => blk_cell (blk_drew H1.out) o⟩ | exact ⟨fun o => blk_cell (blk_drew (blk_alloc H0.out _)) o, fun o => blk_cell (blk_drew (blk_alloc H1.out _)) o⟩ | assumption)
    (first | (go_at_call 99; refine (cmp_compare _ _ _).mono ?_; rintro e w' ⟨rfl, rfl⟩) | (go_at_call 97; refine (cmp_or _ _ _ (cmpI a c) (cmpI b d) ?_ ?_).mono ?_; (go_simp); (go_simp); rintro e w' ⟨rfl, rfl⟩))
  go_wp2
  go_ret
  exact ⟨rfl, ((Frm.alloc _ _ _).tr (Frm.alloc _ _ _)).tr ((Frm.alloc _ _ _).tr (Frm.drew _ _))⟩

theorem tick_point (w : World) (n : Int) :
    Calls Try.prog 83 #[.int .i64 n] w fun e w' => e = .returned (.agg #[.int .i64 n, .int .i64 n]) ∧ Frm [] w w' := by
  go_enter Try.func83, Try.ntmps83
  go_wp2
  exact bodyPost_ret (v := .agg #[.int .i64 n, .int .i64 n]) (by simp [results, Try.results83, go_sem]) rfl ⟨rfl, Frm.alloc _ _ _⟩

end Go.Proofs.Ytkcimjcmlibgpaa
