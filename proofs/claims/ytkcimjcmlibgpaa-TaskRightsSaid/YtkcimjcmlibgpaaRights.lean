/-
  stackyardlaw12.TaskRights returns true. No condition.
-/
import Derived.Test.YtkcimjcmlibgpaaTaskC
namespace Go.Proofs.Ytkcimjcmlibgpaa
open Go.RowKit

set_option maxHeartbeats 4000000 in
theorem taskRights_walk (w : World) (kind : Int) (_ : I64 kind) (en : Int) (_ : I64 en) (value : Int) (_ : U64 value) (start : Int) (_ : I64 start) :
    Calls Try.prog 11 #[.int .i64 kind, .int .i64 en, .int .u64 value, .int .i64 start] w fun e w' => e = .returned (.bool true) ∧ Frm [] w w' := by
  have HR := Lib.hid (fun w' => call_right w' kind en value start)
  by_cases k0 : 0 ≤ kind
  · by_cases k1 : kind ≤ 1
    · by_cases e0 : 0 ≤ en
      · by_cases e1 : en ≤ 1
        · have e : decide ((kind = 0 ∨ kind = 1) ∧ (en = 0 ∨ en = 1)) = true := by simp; omega
          rw [e] at HR
          clear e
          go_enter Try.func11, Try.ntmps11
          go_wp2_with (first | (go_at_call 44; refine (law12_head _).mono ?_; rintro e w1 ⟨rfl, q1⟩; have HQ1 := Lib.hid q1; clear q1) | (go_at_call 53; refine (HR.out _).mono ?_; rintro e w2 ⟨rfl, q2⟩; have HQ2 := Lib.hid q2; clear q2))
          go_ret
          exact ⟨rfl, (HQ1.out.tr (Frm.alloc _ _ _)).tr HQ2.out⟩
        · have e : decide ((kind = 0 ∨ kind = 1) ∧ (en = 0 ∨ en = 1)) = false := by simp; omega
          rw [e] at HR
          clear e
          have hd : decide (en ≤ 1) = false := by simpa using e1
          go_enter Try.func11, Try.ntmps11
          go_wp2_with (first | (go_at_call 44; refine (law12_head _).mono ?_; rintro e w1 ⟨rfl, q1⟩; have HQ1 := Lib.hid q1; clear q1) | (go_at_call 53; refine (HR.out _).mono ?_; rintro e w2 ⟨rfl, q2⟩; have HQ2 := Lib.hid q2; clear q2))
          go_ret
          exact ⟨rfl, (HQ1.out.tr (Frm.alloc _ _ _)).tr HQ2.out⟩
      · have e : decide ((kind = 0 ∨ kind = 1) ∧ (en = 0 ∨ en = 1)) = false := by simp; omega
        rw [e] at HR
        clear e
        go_enter Try.func11, Try.ntmps11
        go_wp2_with (first | (go_at_call 44; refine (law12_head _).mono ?_; rintro e w1 ⟨rfl, q1⟩; have HQ1 := Lib.hid q1; clear q1) | (go_at_call 53; refine (HR.out _).mono ?_; rintro e w2 ⟨rfl, q2⟩; have HQ2 := Lib.hid q2; clear q2))
        go_ret
        exact ⟨rfl, (HQ1.out.tr (Frm.alloc _ _ _)).tr HQ2.out⟩
    · have e : decide ((kind = 0 ∨ kind = 1) ∧ (en = 0 ∨ en = 1)) = false := by simp; omega
      rw [e] at HR
      clear e
      go_enter Try.func11, Try.ntmps11
      go_wp2_with (first | (go_at_call 44; refine (law12_head _).mono ?_; rintro e w1 ⟨rfl, q1⟩; have HQ1 := Lib.hid q1; clear q1) | (go_at_call 53; refine (HR.out _).mono ?_; rintro e w2 ⟨rfl, q2⟩; have HQ2 := Lib.hid q2; clear q2))
      go_ret
      exact ⟨rfl, (HQ1.out.tr (Frm.alloc _ _ _)).tr HQ2.out⟩
  · have e : decide ((kind = 0 ∨ kind = 1) ∧ (en = 0 ∨ en = 1)) = false := by simp; omega
    rw [e] at HR
    clear e
    go_enter Try.func11, Try.ntmps11
    go_wp2_with (first | (go_at_call 44; refine (law12_head _).mono ?_; rintro e w1 ⟨rfl, q1⟩; have HQ1 := Lib.hid q1; clear q1) | (go_at_call 53; refine (HR.out _).mono ?_; rintro e w2 ⟨rfl, q2⟩; have HQ2 := Lib.hid q2; clear q2))
    go_ret
    exact ⟨rfl, (HQ1.out.tr (Frm.alloc _ _ _)).tr HQ2.out⟩

end Go.Proofs.Ytkcimjcmlibgpaa
