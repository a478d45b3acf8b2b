/-
  pick.At: the place of what stands at an end; -1: there is nothing. Conditions: the words lie in a slice; an end is 0 or 1.
-/
import Derived.Test.YtkcimjcmlibgpaaOrder
namespace Go.Proofs.Ytkcimjcmlibgpaa
open Go.RowKit

/-- What stands at an end of a row; -1: nothing. -/
def atR (row : List Nat) (en : Int) : Int :=
  match row with
  | [] => -1
  | a :: l => if en = 0 then (a : Int) else (((a :: l).getLast (by simp) : Nat) : Int)

set_option maxHeartbeats 1000000 in
theorem pick_at (w : World) (wb n : Nat) (words : List Int) (en : Int) (hen : en = 0 ∨ en = 1) (hw : Blk w wb (wrow words) 43) (hl : words.length = n) (hn : n ≤ 4096) (hu : ∀ x ∈ words, U64 x) :
    Calls Try.prog 79 #[.slice (some ⟨wb, 0, none⟩) n n, .int .i64 en] w fun e w' => e = .returned (.int .i64 (atR (rowW words) en)) ∧ Frm [] w w' := by
  have HC := Lib.hid (pick_order w wb n words hw hl hn hu)
  have hrl : (rowW words).length ≤ n := by
    unfold rowW; rw [List.length_map, (sortT_perm _).length_eq, ← hl]; exact things_le _ _
  clear hw hl hu
  generalize rowW words = R at *
  cases R with
  | nil =>
    have HA := Lib.hid (show atR [] en = -1 from rfl)
    go_enter Try.func79, Try.ntmps79
    go_wp2_with fail
    refine HC.out.mono ?_
    rintro e w1 ⟨v, rfl, ho, hnw, q⟩
    obtain ⟨ao, cap, rfl⟩ : ∃ ao cap, v = .slice ao 0 cap := by
      rcases Go.Joins.ownsRow_forms ho with ⟨rfl, _⟩ | ⟨g, cap, rfl⟩
      · exact ⟨_, _, rfl⟩
      · exact ⟨_, _, rfl⟩
    have HQ := Lib.hid q
    clear ho hnw q HC
    go_wp2
    go_ret
    exact ⟨ret_i HA.out.symm, HQ.out⟩
  | cons a l =>
    have HA0 := Lib.hid (show atR (a :: l) 0 = (a : Int) from rfl)
    have HA1 := Lib.hid (show atR (a :: l) 1 = (((a :: l).getLast (by simp) : Nat) : Int) from rfl)
    have hgl : (a :: l)[l.length]? = some ((a :: l).getLast (by simp)) := by rw [List.getLast_eq_getElem]; simp
    generalize (a :: l).getLast (by simp) = z at *
    have HGL := Lib.hid hgl
    have hll : l.length < 4096 := by simp at hrl; omega
    clear hgl hrl
    rcases hen with rfl | rfl
    · go_enter Try.func79, Try.ntmps79
      go_wp2_with fail
      refine HC.out.mono ?_
      rintro e w1 ⟨v, rfl, ho, hnw, q⟩
      obtain ⟨g, cap, rfl⟩ := Go.Joins.ownsRow_form ho (by simp)
      have c0 : w1.cell? ⟨g, 0, none⟩ = some (.int .i64 a) := by rw [ho.cellAt 0 (by simp)]; simp
      have HQ := Lib.hid q
      clear ho hnw q HC
      simp only [List.length_cons]
      go_wp2
      go_ret
      exact ⟨ret_i HA0.out.symm, HQ.out⟩
    · go_enter Try.func79, Try.ntmps79
      go_wp2_with fail
      refine HC.out.mono ?_
      rintro e w1 ⟨v, rfl, ho, hnw, q⟩
      obtain ⟨g, cap, rfl⟩ := Go.Joins.ownsRow_form ho (by simp)
      have c0 : w1.cell? ⟨g, l.length, none⟩ = some (.int .i64 z) := by
        rw [ho.cellAt _ (by simp), List.getElem?_map, HGL.out]; rfl
      have HQ := Lib.hid q
      clear ho hnw q HC
      simp only [List.length_cons]
      go_wp2
      go_ret
      exact ⟨ret_i HA1.out.symm, HQ.out⟩

end Go.Proofs.Ytkcimjcmlibgpaa
