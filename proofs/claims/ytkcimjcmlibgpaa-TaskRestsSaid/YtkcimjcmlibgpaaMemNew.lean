/-
  mem.New: cells that are all nought. Condition: from 1 to 65536 cells.
-/
import Derived.Test.YtkcimjcmlibgpaaSnapC
namespace Go.Proofs.Ytkcimjcmlibgpaa
open Go.RowKit

set_option maxRecDepth 100000 in
set_option maxHeartbeats 400000 in
theorem mem_new (w : World) (n : Nat) (hn : n ≤ 65536) (hp : 0 < n) :
    Calls Try.prog 45 #[.int .i64 n] w fun e w' => ∃ p F, e = .returned (.pointer (some ⟨p, 0, none⟩)) ∧ IsMem w' p F ⟨List.replicate n 0, []⟩ ∧ (∀ k, k ∈ F → w.heap.size ≤ k) ∧ Frm [] w w' := by
  have hmk := run_make_row' (P := Try.prog) 33 43 (.int .u64 0) 8 Try.underlying33 Try.infoU64 rfl .i64 .i64 n (by omega) (by omega)
  have h0 : (0 : Int) ≤ (n : Int) := Int.natCast_nonneg n
  have h1 : (n : Int) ≤ 65536 := by omega
  have W1 : Blk (w.alloc (.cells (madeCells #[.int .u64 0] n) 43)) w.heap.size (wrow (List.replicate n 0)) 43 := by rw [made_wrow]; exact blk_new _ _ _
  have T1 : Blk ((w.alloc (.cells (madeCells #[.int .u64 0] n) 43)).alloc (.cells #[.slice (some ⟨w.heap.size, 0, none⟩) n n, .slice none 0 0] 106)) (w.heap.size + 1) #[.slice (some ⟨w.heap.size, 0, none⟩) n n, .slice none 0 0] 106 := by
    have := blk_new (w.alloc (.cells (madeCells #[.int .u64 0] n) 43)) #[.slice (some ⟨w.heap.size, 0, none⟩) n n, .slice none 0 0] 106
    rw [size_al] at this; exact this
  have HT1 := Lib.hid T1
  have HW1 := Lib.hid (blk_alloc W1 (.cells #[.slice (some ⟨w.heap.size, 0, none⟩) n n, .slice none 0 0] 106))
  have HF := Lib.hid ((Frm.alloc [] w (.cells (madeCells #[.int .u64 0] n) 43)).tr (Frm.alloc _ _ (.cells #[.slice (some ⟨w.heap.size, 0, none⟩) n n, .slice none 0 0] 106)))
  clear W1 T1
  go_enter Try.func45, Try.ntmps45
  go_wp2
  go_ret
  refine ⟨w.heap.size + 1, (w.heap.size + 1) :: w.heap.size :: [], rfl, ⟨⟨w.heap.size, .slice none 0 0, rfl, ?_, HW1.out, World.ownsRow_nil _ _ _ _, by omega, by simp [Value.ownBlock]⟩, ?_⟩, ?_, HF.out⟩
  · simpa using HT1.out
  · intro x hx
    rw [(List.mem_replicate.1 hx).2]; exact ⟨by decide, by decide⟩
  · intro k hk
    simp only [List.mem_cons, List.not_mem_nil, or_false] at hk
    omega

end Go.Proofs.Ytkcimjcmlibgpaa
