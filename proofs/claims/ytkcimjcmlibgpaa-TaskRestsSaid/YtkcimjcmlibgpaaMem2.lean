/-
  mem.touch, way by way: what it does to the memory, in cells. Conditions: the cells' facts.
-/
import Derived.Test.YtkcimjcmlibgpaaMem
import Derived.Test.YtkcimjcmlibgpaaApp
namespace Go.Proofs.Ytkcimjcmlibgpaa
open Go.RowKit

/-- What one touch leaves: the cell is turned, the event is appended, the log's slice is stored. -/
def Touched (w w' : World) (p bc k : Nat) (lv : Value) (N : Nat) (xs : List Value) (x : Int) (vs : List Value) : Prop :=
  ∃ g cap w2, w2.ownsRow 0 78 6 (.slice (some ⟨g, 0, none⟩) (N + 1) cap) (N + 1) (xs ++ vs) ∧
    ((w.setCell ⟨bc, k, none⟩ (.int .u64 x)).alloc (.cells vs.toArray 78)).grownBy w2 lv.ownBlock ∧
    (lv.ownBlock = some g ∨ w.heap.size + 1 ≤ g) ∧
    w' = w2.setCell ⟨p, 1, none⟩ (.slice (some ⟨g, 0, none⟩) (N + 1) cap)

set_option maxHeartbeats 400000 in
theorem raw_load (p bc k n : Nat) (lv : Value) (N : Nat) (xs : List Value) (who x old nxt : Int) (w : World) (hk : k < n) (hN : N < 1099511627776) (hne : p ≠ bc) (hlvp : lv.ownBlock ≠ some p) (hlvb : lv.ownBlock ≠ some bc)
    (b0 : Blk w p #[.slice (some ⟨bc, 0, none⟩) n n, lv] 106) (cx : w.cell? ⟨bc, k, none⟩ = some (.int .u64 x)) (fx : w.frozen? ⟨bc, k, none⟩ = false)
    (hlw : w.ownsRow 0 78 6 lv N xs) :
    Calls Try.prog 61 #[.pointer (some ⟨p, 0, none⟩), .int .i64 who, .int .i64 0, .int .i64 k, .int .u64 old, .int .u64 nxt] w fun e w' =>
      e = .returned (.tuple #[.int .u64 x, .bool true]) ∧ Touched w w' p bc k lv N xs (x) [.int .i64 who, .int .i64 0, .int .i64 k, .int .u64 x, .int .u64 (x), .bool true] := by
  have h0 : 0 ≤ (k : Int) := Int.natCast_nonneg k
  have h1 : (k : Int) < (n : Int) := by omega
  obtain ⟨i0, hi, hz0, hz1, hz2⟩ := info_parts Try.infoEv
  have c0 : w.cell? ⟨p, 0, none⟩ = some (.slice (some ⟨bc, 0, none⟩) n n) := by rw [blk_cell b0]; rfl
  have c1 : w.cell? ⟨p, 1, none⟩ = some lv := by rw [blk_cell b0]; rfl
  have hp : p < w.heap.size := blk_lt b0
  have hne' : bc ≠ p := Ne.symm hne
  have B0 := Lib.hid b0
  clear b0
  have HL := Lib.hid hlw
  clear hlw
  have HP := Lib.hid hlvp
  clear hlvp
  have HB := Lib.hid hlvb
  clear hlvb
  go_enter Try.func61, Try.ntmps61
  go_wp2_with (first | (go_at_call 60; refine (there_yes p bc n _ _ h0 h1 c0).mono ?_; rintro e w' ⟨rfl, rfl⟩) | (at_builtin; refine wpList_append_fp rfl (.tmp 55) (.tmp 63) 74 rfl 78 i0 _ 6 48 Try.underlying74 hi hz0 hz1 hz2 rfl (by decide) lv N xs rfl ((ownsRow_setCell_other HL.out HB.out _).alloc _) ⟨w.heap.size, 0, none⟩ 1 1 [.int .i64 who, .int .i64 0, .int .i64 k, .int .u64 x, .int .u64 (x), .bool true] rfl rfl ?c1 ?c2 ?c3 ?c4 ?_))
  case c1 => exact new_cells (by simp [World.setCell])
  case c2 => intro u hu; simp at hu; rcases hu with rfl | rfl | rfl | rfl | rfl | rfl <;> rfl
  case c3 => unfold maxLen; omega
  case c4 => omega
  intro v' w2 hown hgrow hfp
  obtain ⟨g, cap, rfl⟩ : ∃ g cap', v' = .slice (some ⟨g, 0, none⟩) (N + 1) cap' := Go.Joins.ownsRow_form hown (by omega)
  have hcp : w2.cell? ⟨p, 1, none⟩ = some lv := by
    rw [World.cell?_of_block (hgrow.block p (by simp [World.setCell]; omega) (fun e => HP.out e.symm))]
    rw [World.cell?_alloc_past _ _ _ (by simpa [World.setCell] using hp)]
    rw [blk_cell (blk_other B0.out hne _)]; rfl
  have hfp' : w2.frozen? ⟨p, 1, none⟩ = false := by
    rw [World.frozen?_of_block (hgrow.block p (by simp [World.setCell]; omega) (fun e => HP.out e.symm))]
    rw [World.frozen?_alloc_past _ _ _ (by simpa [World.setCell] using hp)]
    exact blk_free (blk_other B0.out hne _) 1
  have HF := Lib.hid (hfp g rfl)
  clear hfp
  have HO := Lib.hid hown
  clear hown
  have HG := Lib.hid hgrow
  clear hgrow
  clear cx fx
  go_wp2
  go_ret2
  exact ⟨rfl, g, cap, w2, HO.out, HG.out, HF.out, rfl⟩

set_option maxHeartbeats 400000 in
theorem raw_store (p bc k n : Nat) (lv : Value) (N : Nat) (xs : List Value) (who x old nxt : Int) (w : World) (hk : k < n) (hN : N < 1099511627776) (hne : p ≠ bc) (hlvp : lv.ownBlock ≠ some p) (hlvb : lv.ownBlock ≠ some bc)
    (b0 : Blk w p #[.slice (some ⟨bc, 0, none⟩) n n, lv] 106) (cx : w.cell? ⟨bc, k, none⟩ = some (.int .u64 x)) (fx : w.frozen? ⟨bc, k, none⟩ = false)
    (hlw : w.ownsRow 0 78 6 lv N xs) :
    Calls Try.prog 61 #[.pointer (some ⟨p, 0, none⟩), .int .i64 who, .int .i64 1, .int .i64 k, .int .u64 old, .int .u64 nxt] w fun e w' =>
      e = .returned (.tuple #[.int .u64 x, .bool true]) ∧ Touched w w' p bc k lv N xs (nxt) [.int .i64 who, .int .i64 1, .int .i64 k, .int .u64 x, .int .u64 (nxt), .bool true] := by
  have h0 : 0 ≤ (k : Int) := Int.natCast_nonneg k
  have h1 : (k : Int) < (n : Int) := by omega
  obtain ⟨i0, hi, hz0, hz1, hz2⟩ := info_parts Try.infoEv
  have c0 : w.cell? ⟨p, 0, none⟩ = some (.slice (some ⟨bc, 0, none⟩) n n) := by rw [blk_cell b0]; rfl
  have c1 : w.cell? ⟨p, 1, none⟩ = some lv := by rw [blk_cell b0]; rfl
  have hp : p < w.heap.size := blk_lt b0
  have hne' : bc ≠ p := Ne.symm hne
  have B0 := Lib.hid b0
  clear b0
  have HL := Lib.hid hlw
  clear hlw
  have HP := Lib.hid hlvp
  clear hlvp
  have HB := Lib.hid hlvb
  clear hlvb
  go_enter Try.func61, Try.ntmps61
  go_wp2_with (first | (go_at_call 60; refine (there_yes p bc n _ _ h0 h1 c0).mono ?_; rintro e w' ⟨rfl, rfl⟩) | (at_builtin; refine wpList_append_fp rfl (.tmp 55) (.tmp 63) 74 rfl 78 i0 _ 6 48 Try.underlying74 hi hz0 hz1 hz2 rfl (by decide) lv N xs rfl ((ownsRow_setCell_other HL.out HB.out _).alloc _) ⟨w.heap.size, 0, none⟩ 1 1 [.int .i64 who, .int .i64 1, .int .i64 k, .int .u64 x, .int .u64 (nxt), .bool true] rfl rfl ?c1 ?c2 ?c3 ?c4 ?_))
  case c1 => exact new_cells (by simp [World.setCell])
  case c2 => intro u hu; simp at hu; rcases hu with rfl | rfl | rfl | rfl | rfl | rfl <;> rfl
  case c3 => unfold maxLen; omega
  case c4 => omega
  intro v' w2 hown hgrow hfp
  obtain ⟨g, cap, rfl⟩ : ∃ g cap', v' = .slice (some ⟨g, 0, none⟩) (N + 1) cap' := Go.Joins.ownsRow_form hown (by omega)
  have hcp : w2.cell? ⟨p, 1, none⟩ = some lv := by
    rw [World.cell?_of_block (hgrow.block p (by simp [World.setCell]; omega) (fun e => HP.out e.symm))]
    rw [World.cell?_alloc_past _ _ _ (by simpa [World.setCell] using hp)]
    rw [blk_cell (blk_other B0.out hne _)]; rfl
  have hfp' : w2.frozen? ⟨p, 1, none⟩ = false := by
    rw [World.frozen?_of_block (hgrow.block p (by simp [World.setCell]; omega) (fun e => HP.out e.symm))]
    rw [World.frozen?_alloc_past _ _ _ (by simpa [World.setCell] using hp)]
    exact blk_free (blk_other B0.out hne _) 1
  have HF := Lib.hid (hfp g rfl)
  clear hfp
  have HO := Lib.hid hown
  clear hown
  have HG := Lib.hid hgrow
  clear hgrow
  clear cx fx
  go_wp2
  go_ret2
  exact ⟨rfl, g, cap, w2, HO.out, HG.out, HF.out, rfl⟩

set_option maxHeartbeats 400000 in
theorem raw_swapYes (p bc k n : Nat) (lv : Value) (N : Nat) (xs : List Value) (who x nxt : Int) (w : World) (hk : k < n) (hN : N < 1099511627776) (hne : p ≠ bc) (hlvp : lv.ownBlock ≠ some p) (hlvb : lv.ownBlock ≠ some bc)
    (b0 : Blk w p #[.slice (some ⟨bc, 0, none⟩) n n, lv] 106) (cx : w.cell? ⟨bc, k, none⟩ = some (.int .u64 x)) (fx : w.frozen? ⟨bc, k, none⟩ = false)
    (hlw : w.ownsRow 0 78 6 lv N xs) :
    Calls Try.prog 61 #[.pointer (some ⟨p, 0, none⟩), .int .i64 who, .int .i64 2, .int .i64 k, .int .u64 x, .int .u64 nxt] w fun e w' =>
      e = .returned (.tuple #[.int .u64 x, .bool true]) ∧ Touched w w' p bc k lv N xs (nxt) [.int .i64 who, .int .i64 2, .int .i64 k, .int .u64 x, .int .u64 (nxt), .bool true] := by
  have h0 : 0 ≤ (k : Int) := Int.natCast_nonneg k
  have h1 : (k : Int) < (n : Int) := by omega
  obtain ⟨i0, hi, hz0, hz1, hz2⟩ := info_parts Try.infoEv
  have c0 : w.cell? ⟨p, 0, none⟩ = some (.slice (some ⟨bc, 0, none⟩) n n) := by rw [blk_cell b0]; rfl
  have c1 : w.cell? ⟨p, 1, none⟩ = some lv := by rw [blk_cell b0]; rfl
  have hp : p < w.heap.size := blk_lt b0
  have hne' : bc ≠ p := Ne.symm hne
  have B0 := Lib.hid b0
  clear b0
  have HL := Lib.hid hlw
  clear hlw
  have HP := Lib.hid hlvp
  clear hlvp
  have HB := Lib.hid hlvb
  clear hlvb
  go_enter Try.func61, Try.ntmps61
  go_wp2_with (first | (go_at_call 60; refine (there_yes p bc n _ _ h0 h1 c0).mono ?_; rintro e w' ⟨rfl, rfl⟩) | (at_builtin; refine wpList_append_fp rfl (.tmp 55) (.tmp 63) 74 rfl 78 i0 _ 6 48 Try.underlying74 hi hz0 hz1 hz2 rfl (by decide) lv N xs rfl ((ownsRow_setCell_other HL.out HB.out _).alloc _) ⟨w.heap.size, 0, none⟩ 1 1 [.int .i64 who, .int .i64 2, .int .i64 k, .int .u64 x, .int .u64 (nxt), .bool true] rfl rfl ?c1 ?c2 ?c3 ?c4 ?_))
  case c1 => exact new_cells (by simp [World.setCell])
  case c2 => intro u hu; simp at hu; rcases hu with rfl | rfl | rfl | rfl | rfl | rfl <;> rfl
  case c3 => unfold maxLen; omega
  case c4 => omega
  intro v' w2 hown hgrow hfp
  obtain ⟨g, cap, rfl⟩ : ∃ g cap', v' = .slice (some ⟨g, 0, none⟩) (N + 1) cap' := Go.Joins.ownsRow_form hown (by omega)
  have hcp : w2.cell? ⟨p, 1, none⟩ = some lv := by
    rw [World.cell?_of_block (hgrow.block p (by simp [World.setCell]; omega) (fun e => HP.out e.symm))]
    rw [World.cell?_alloc_past _ _ _ (by simpa [World.setCell] using hp)]
    rw [blk_cell (blk_other B0.out hne _)]; rfl
  have hfp' : w2.frozen? ⟨p, 1, none⟩ = false := by
    rw [World.frozen?_of_block (hgrow.block p (by simp [World.setCell]; omega) (fun e => HP.out e.symm))]
    rw [World.frozen?_alloc_past _ _ _ (by simpa [World.setCell] using hp)]
    exact blk_free (blk_other B0.out hne _) 1
  have HF := Lib.hid (hfp g rfl)
  clear hfp
  have HO := Lib.hid hown
  clear hown
  have HG := Lib.hid hgrow
  clear hgrow
  clear cx fx
  go_wp2
  go_ret2
  exact ⟨rfl, g, cap, w2, HO.out, HG.out, HF.out, rfl⟩

set_option maxHeartbeats 400000 in
theorem raw_swapNo (p bc k n : Nat) (lv : Value) (N : Nat) (xs : List Value) (who x old nxt : Int) (w : World) (hk : k < n) (hN : N < 1099511627776) (hne : p ≠ bc) (hlvp : lv.ownBlock ≠ some p) (hlvb : lv.ownBlock ≠ some bc)
    (b0 : Blk w p #[.slice (some ⟨bc, 0, none⟩) n n, lv] 106) (cx : w.cell? ⟨bc, k, none⟩ = some (.int .u64 x)) (fx : w.frozen? ⟨bc, k, none⟩ = false)
    (hlw : w.ownsRow 0 78 6 lv N xs) (hd : (x == old) = false) :
    Calls Try.prog 61 #[.pointer (some ⟨p, 0, none⟩), .int .i64 who, .int .i64 2, .int .i64 k, .int .u64 old, .int .u64 nxt] w fun e w' =>
      e = .returned (.tuple #[.int .u64 x, .bool false]) ∧ Touched w w' p bc k lv N xs (x) [.int .i64 who, .int .i64 2, .int .i64 k, .int .u64 x, .int .u64 (x), .bool false] := by
  have h0 : 0 ≤ (k : Int) := Int.natCast_nonneg k
  have h1 : (k : Int) < (n : Int) := by omega
  obtain ⟨i0, hi, hz0, hz1, hz2⟩ := info_parts Try.infoEv
  have c0 : w.cell? ⟨p, 0, none⟩ = some (.slice (some ⟨bc, 0, none⟩) n n) := by rw [blk_cell b0]; rfl
  have c1 : w.cell? ⟨p, 1, none⟩ = some lv := by rw [blk_cell b0]; rfl
  have hp : p < w.heap.size := blk_lt b0
  have hne' : bc ≠ p := Ne.symm hne
  have B0 := Lib.hid b0
  clear b0
  have HL := Lib.hid hlw
  clear hlw
  have HP := Lib.hid hlvp
  clear hlvp
  have HB := Lib.hid hlvb
  clear hlvb
  go_enter Try.func61, Try.ntmps61
  go_wp2_with (first | (go_at_call 60; refine (there_yes p bc n _ _ h0 h1 c0).mono ?_; rintro e w' ⟨rfl, rfl⟩) | (at_builtin; refine wpList_append_fp rfl (.tmp 55) (.tmp 63) 74 rfl 78 i0 _ 6 48 Try.underlying74 hi hz0 hz1 hz2 rfl (by decide) lv N xs rfl ((ownsRow_setCell_other HL.out HB.out _).alloc _) ⟨w.heap.size, 0, none⟩ 1 1 [.int .i64 who, .int .i64 2, .int .i64 k, .int .u64 x, .int .u64 (x), .bool false] rfl rfl ?c1 ?c2 ?c3 ?c4 ?_))
  case c1 => exact new_cells (by simp [World.setCell])
  case c2 => intro u hu; simp at hu; rcases hu with rfl | rfl | rfl | rfl | rfl | rfl <;> rfl
  case c3 => unfold maxLen; omega
  case c4 => omega
  intro v' w2 hown hgrow hfp
  obtain ⟨g, cap, rfl⟩ : ∃ g cap', v' = .slice (some ⟨g, 0, none⟩) (N + 1) cap' := Go.Joins.ownsRow_form hown (by omega)
  have hcp : w2.cell? ⟨p, 1, none⟩ = some lv := by
    rw [World.cell?_of_block (hgrow.block p (by simp [World.setCell]; omega) (fun e => HP.out e.symm))]
    rw [World.cell?_alloc_past _ _ _ (by simpa [World.setCell] using hp)]
    rw [blk_cell (blk_other B0.out hne _)]; rfl
  have hfp' : w2.frozen? ⟨p, 1, none⟩ = false := by
    rw [World.frozen?_of_block (hgrow.block p (by simp [World.setCell]; omega) (fun e => HP.out e.symm))]
    rw [World.frozen?_alloc_past _ _ _ (by simpa [World.setCell] using hp)]
    exact blk_free (blk_other B0.out hne _) 1
  have HF := Lib.hid (hfp g rfl)
  clear hfp
  have HO := Lib.hid hown
  clear hown
  have HG := Lib.hid hgrow
  clear hgrow
  clear cx fx
  go_wp2
  go_ret2
  exact ⟨rfl, g, cap, w2, HO.out, HG.out, HF.out, rfl⟩

set_option maxHeartbeats 400000 in
theorem raw_add (p bc k n : Nat) (lv : Value) (N : Nat) (xs : List Value) (who x old nxt : Int) (w : World) (hk : k < n) (hN : N < 1099511627776) (hne : p ≠ bc) (hlvp : lv.ownBlock ≠ some p) (hlvb : lv.ownBlock ≠ some bc)
    (b0 : Blk w p #[.slice (some ⟨bc, 0, none⟩) n n, lv] 106) (cx : w.cell? ⟨bc, k, none⟩ = some (.int .u64 x)) (fx : w.frozen? ⟨bc, k, none⟩ = false)
    (hlw : w.ownsRow 0 78 6 lv N xs) :
    Calls Try.prog 61 #[.pointer (some ⟨p, 0, none⟩), .int .i64 who, .int .i64 3, .int .i64 k, .int .u64 old, .int .u64 nxt] w fun e w' =>
      e = .returned (.tuple #[.int .u64 x, .bool true]) ∧ Touched w w' p bc k lv N xs ((x + nxt) % 18446744073709551616) [.int .i64 who, .int .i64 3, .int .i64 k, .int .u64 x, .int .u64 ((x + nxt) % 18446744073709551616), .bool true] := by
  have h0 : 0 ≤ (k : Int) := Int.natCast_nonneg k
  have h1 : (k : Int) < (n : Int) := by omega
  obtain ⟨i0, hi, hz0, hz1, hz2⟩ := info_parts Try.infoEv
  have c0 : w.cell? ⟨p, 0, none⟩ = some (.slice (some ⟨bc, 0, none⟩) n n) := by rw [blk_cell b0]; rfl
  have c1 : w.cell? ⟨p, 1, none⟩ = some lv := by rw [blk_cell b0]; rfl
  have hp : p < w.heap.size := blk_lt b0
  have hne' : bc ≠ p := Ne.symm hne
  have B0 := Lib.hid b0
  clear b0
  have HL := Lib.hid hlw
  clear hlw
  have HP := Lib.hid hlvp
  clear hlvp
  have HB := Lib.hid hlvb
  clear hlvb
  go_enter Try.func61, Try.ntmps61
  go_wp2_with (first | (go_at_call 60; refine (there_yes p bc n _ _ h0 h1 c0).mono ?_; rintro e w' ⟨rfl, rfl⟩) | (at_builtin; refine wpList_append_fp rfl (.tmp 55) (.tmp 63) 74 rfl 78 i0 _ 6 48 Try.underlying74 hi hz0 hz1 hz2 rfl (by decide) lv N xs rfl ((ownsRow_setCell_other HL.out HB.out _).alloc _) ⟨w.heap.size, 0, none⟩ 1 1 [.int .i64 who, .int .i64 3, .int .i64 k, .int .u64 x, .int .u64 ((x + nxt) % 18446744073709551616), .bool true] rfl rfl ?c1 ?c2 ?c3 ?c4 ?_))
  case c1 => exact new_cells (by simp [World.setCell])
  case c2 => intro u hu; simp at hu; rcases hu with rfl | rfl | rfl | rfl | rfl | rfl <;> rfl
  case c3 => unfold maxLen; omega
  case c4 => omega
  intro v' w2 hown hgrow hfp
  obtain ⟨g, cap, rfl⟩ : ∃ g cap', v' = .slice (some ⟨g, 0, none⟩) (N + 1) cap' := Go.Joins.ownsRow_form hown (by omega)
  have hcp : w2.cell? ⟨p, 1, none⟩ = some lv := by
    rw [World.cell?_of_block (hgrow.block p (by simp [World.setCell]; omega) (fun e => HP.out e.symm))]
    rw [World.cell?_alloc_past _ _ _ (by simpa [World.setCell] using hp)]
    rw [blk_cell (blk_other B0.out hne _)]; rfl
  have hfp' : w2.frozen? ⟨p, 1, none⟩ = false := by
    rw [World.frozen?_of_block (hgrow.block p (by simp [World.setCell]; omega) (fun e => HP.out e.symm))]
    rw [World.frozen?_alloc_past _ _ _ (by simpa [World.setCell] using hp)]
    exact blk_free (blk_other B0.out hne _) 1
  have HF := Lib.hid (hfp g rfl)
  clear hfp
  have HO := Lib.hid hown
  clear hown
  have HG := Lib.hid hgrow
  clear hgrow
  clear cx fx
  go_wp2
  go_ret2
  exact ⟨rfl, g, cap, w2, HO.out, HG.out, HF.out, rfl⟩

theorem touch_load (w : World) (p : Nat) (F : List Nat) (m : MemS) (who old nxt : Int) (k : Nat) (hm : IsMem w p F m) (hk : k < m.cells.length) (hlog : m.log.length < 1099511627776) :
    Calls Try.prog 61 #[.pointer (some ⟨p, 0, none⟩), .int .i64 who, .int .i64 0, .int .i64 k, .int .u64 old, .int .u64 nxt] w fun e w' =>
      e = .returned (.tuple #[.int .u64 (m.at k), .bool true]) ∧ ∃ F', IsMem w' p F' (m.put who 0 k (m.at k) true) ∧ Upd F F' w w' := by
  obtain ⟨bc, lv, hF, b0, b1, hlw, hne, hlv⟩ := hm.ex
  have hxk : U64 (m.at k) := by unfold MemS.at; rw [List.getD_eq_getElem?_getD, List.getElem?_eq_getElem hk]; exact hm.bd _ (List.getElem_mem hk)
  refine (raw_load p bc k m.cells.length lv m.log.length (evVals m.log) who (m.at k) old nxt w hk hlog hne (fun e => (hlv p e).1 rfl) (fun e => (hlv bc e).2 rfl) b0 (by rw [blk_cell b1, at_get m k hk]) (blk_free b1 k) hlw).mono ?_
  rintro e w' ⟨he, g, cap, w2, ho, hg, hn, rfl⟩
  exact ⟨he, touch_end bc lv g cap k who 0 (m.at k) true _ hF hm.bd (hxk) b0 b1 hne hlv rfl ho hg (hn.imp id (fun h => by rw [size_al, size_sc]; exact h))⟩

theorem touch_store (w : World) (p : Nat) (F : List Nat) (m : MemS) (who old nxt : Int) (k : Nat) (hm : IsMem w p F m) (hk : k < m.cells.length) (hlog : m.log.length < 1099511627776) (hb : U64 nxt) :
    Calls Try.prog 61 #[.pointer (some ⟨p, 0, none⟩), .int .i64 who, .int .i64 1, .int .i64 k, .int .u64 old, .int .u64 nxt] w fun e w' =>
      e = .returned (.tuple #[.int .u64 (m.at k), .bool true]) ∧ ∃ F', IsMem w' p F' (m.put who 1 k (nxt) true) ∧ Upd F F' w w' := by
  obtain ⟨bc, lv, hF, b0, b1, hlw, hne, hlv⟩ := hm.ex
  have hxk : U64 (m.at k) := by unfold MemS.at; rw [List.getD_eq_getElem?_getD, List.getElem?_eq_getElem hk]; exact hm.bd _ (List.getElem_mem hk)
  refine (raw_store p bc k m.cells.length lv m.log.length (evVals m.log) who (m.at k) old nxt w hk hlog hne (fun e => (hlv p e).1 rfl) (fun e => (hlv bc e).2 rfl) b0 (by rw [blk_cell b1, at_get m k hk]) (blk_free b1 k) hlw).mono ?_
  rintro e w' ⟨he, g, cap, w2, ho, hg, hn, rfl⟩
  exact ⟨he, touch_end bc lv g cap k who 1 (nxt) true _ hF hm.bd (hb) b0 b1 hne hlv rfl ho hg (hn.imp id (fun h => by rw [size_al, size_sc]; exact h))⟩

theorem touch_swapYes (w : World) (p : Nat) (F : List Nat) (m : MemS) (who nxt : Int) (k : Nat) (hm : IsMem w p F m) (hk : k < m.cells.length) (hlog : m.log.length < 1099511627776) (hb : U64 nxt) :
    Calls Try.prog 61 #[.pointer (some ⟨p, 0, none⟩), .int .i64 who, .int .i64 2, .int .i64 k, .int .u64 (m.at k), .int .u64 nxt] w fun e w' =>
      e = .returned (.tuple #[.int .u64 (m.at k), .bool true]) ∧ ∃ F', IsMem w' p F' (m.put who 2 k (nxt) true) ∧ Upd F F' w w' := by
  obtain ⟨bc, lv, hF, b0, b1, hlw, hne, hlv⟩ := hm.ex
  have hxk : U64 (m.at k) := by unfold MemS.at; rw [List.getD_eq_getElem?_getD, List.getElem?_eq_getElem hk]; exact hm.bd _ (List.getElem_mem hk)
  refine (raw_swapYes p bc k m.cells.length lv m.log.length (evVals m.log) who (m.at k) nxt w hk hlog hne (fun e => (hlv p e).1 rfl) (fun e => (hlv bc e).2 rfl) b0 (by rw [blk_cell b1, at_get m k hk]) (blk_free b1 k) hlw).mono ?_
  rintro e w' ⟨he, g, cap, w2, ho, hg, hn, rfl⟩
  exact ⟨he, touch_end bc lv g cap k who 2 (nxt) true _ hF hm.bd (hb) b0 b1 hne hlv rfl ho hg (hn.imp id (fun h => by rw [size_al, size_sc]; exact h))⟩

theorem touch_swapNo (w : World) (p : Nat) (F : List Nat) (m : MemS) (who old nxt : Int) (k : Nat) (hm : IsMem w p F m) (hk : k < m.cells.length) (hlog : m.log.length < 1099511627776) (hd : m.at k ≠ old) :
    Calls Try.prog 61 #[.pointer (some ⟨p, 0, none⟩), .int .i64 who, .int .i64 2, .int .i64 k, .int .u64 old, .int .u64 nxt] w fun e w' =>
      e = .returned (.tuple #[.int .u64 (m.at k), .bool false]) ∧ ∃ F', IsMem w' p F' (m.put who 2 k (m.at k) false) ∧ Upd F F' w w' := by
  obtain ⟨bc, lv, hF, b0, b1, hlw, hne, hlv⟩ := hm.ex
  have hxk : U64 (m.at k) := by unfold MemS.at; rw [List.getD_eq_getElem?_getD, List.getElem?_eq_getElem hk]; exact hm.bd _ (List.getElem_mem hk)
  refine (raw_swapNo p bc k m.cells.length lv m.log.length (evVals m.log) who (m.at k) old nxt w hk hlog hne (fun e => (hlv p e).1 rfl) (fun e => (hlv bc e).2 rfl) b0 (by rw [blk_cell b1, at_get m k hk]) (blk_free b1 k) hlw (by simpa using hd)).mono ?_
  rintro e w' ⟨he, g, cap, w2, ho, hg, hn, rfl⟩
  exact ⟨he, touch_end bc lv g cap k who 2 (m.at k) false _ hF hm.bd (hxk) b0 b1 hne hlv rfl ho hg (hn.imp id (fun h => by rw [size_al, size_sc]; exact h))⟩

theorem touch_add (w : World) (p : Nat) (F : List Nat) (m : MemS) (who old nxt : Int) (k : Nat) (hm : IsMem w p F m) (hk : k < m.cells.length) (hlog : m.log.length < 1099511627776) :
    Calls Try.prog 61 #[.pointer (some ⟨p, 0, none⟩), .int .i64 who, .int .i64 3, .int .i64 k, .int .u64 old, .int .u64 nxt] w fun e w' =>
      e = .returned (.tuple #[.int .u64 (m.at k), .bool true]) ∧ ∃ F', IsMem w' p F' (m.put who 3 k ((m.at k + nxt) % 18446744073709551616) true) ∧ Upd F F' w w' := by
  obtain ⟨bc, lv, hF, b0, b1, hlw, hne, hlv⟩ := hm.ex
  have hxk : U64 (m.at k) := by unfold MemS.at; rw [List.getD_eq_getElem?_getD, List.getElem?_eq_getElem hk]; exact hm.bd _ (List.getElem_mem hk)
  refine (raw_add p bc k m.cells.length lv m.log.length (evVals m.log) who (m.at k) old nxt w hk hlog hne (fun e => (hlv p e).1 rfl) (fun e => (hlv bc e).2 rfl) b0 (by rw [blk_cell b1, at_get m k hk]) (blk_free b1 k) hlw).mono ?_
  rintro e w' ⟨he, g, cap, w2, ho, hg, hn, rfl⟩
  exact ⟨he, touch_end bc lv g cap k who 3 ((m.at k + nxt) % 18446744073709551616) true _ hF hm.bd (⟨by omega, by omega⟩) b0 b1 hne hlv rfl ho hg (hn.imp id (fun h => by rw [size_al, size_sc]; exact h))⟩

/-- Load -/
theorem mem_load (w : World) (p : Nat) (F : List Nat) (m : MemS) (who : Int) (k : Nat) (hm : IsMem w p F m) (hk : k < m.cells.length) (hlog : m.log.length < 1099511627776) :
    Calls Try.prog 63 #[.pointer (some ⟨p, 0, none⟩), .int .i64 who, .int .i64 k] w fun e w' =>
      e = .returned (.int .u64 (m.at k)) ∧ ∃ F', IsMem w' p F' (m.put who 0 k (m.at k) true) ∧ Upd F F' w w' := by
  go_enter Try.func63, Try.ntmps63
  have H := Lib.hid hm
  clear hm
  go_wp2_with (go_at_call 61; refine (touch_load w p F m who 0 0 k H.out hk hlog).mono ?_; rintro e w' ⟨rfl, F', h1, h2⟩)
  go_ret
  exact ⟨rfl, F', h1, h2⟩

/-- Store -/
theorem mem_store (w : World) (p : Nat) (F : List Nat) (m : MemS) (who x : Int) (k : Nat) (hm : IsMem w p F m) (hk : k < m.cells.length) (hlog : m.log.length < 1099511627776) (hx : U64 x) :
    Calls Try.prog 31 #[.pointer (some ⟨p, 0, none⟩), .int .i64 who, .int .i64 k, .int .u64 x] w fun e w' =>
      e = .returned (.tuple #[]) ∧ ∃ F', IsMem w' p F' (m.put who 1 k x true) ∧ Upd F F' w w' := by
  go_enter Try.func31, Try.ntmps31
  have H := Lib.hid hm
  clear hm
  go_wp2_with (go_at_call 61; refine (touch_store w p F m who 0 x k H.out hk hlog hx).mono ?_; rintro e w' ⟨rfl, F', h1, h2⟩)
  go_end0
  exact ⟨rfl, F', h1, h2⟩

/-- Swap, done -/
theorem mem_swapYes (w : World) (p : Nat) (F : List Nat) (m : MemS) (who x : Int) (k : Nat) (hm : IsMem w p F m) (hk : k < m.cells.length) (hlog : m.log.length < 1099511627776) (hx : U64 x) :
    Calls Try.prog 65 #[.pointer (some ⟨p, 0, none⟩), .int .i64 who, .int .i64 k, .int .u64 (m.at k), .int .u64 x] w fun e w' =>
      e = .returned (.bool true) ∧ ∃ F', IsMem w' p F' (m.put who 2 k x true) ∧ Upd F F' w w' := by
  go_enter Try.func65, Try.ntmps65
  have H := Lib.hid hm
  clear hm
  go_wp2_with (go_at_call 61; refine (touch_swapYes w p F m who x k H.out hk hlog hx).mono ?_; rintro e w' ⟨rfl, F', h1, h2⟩)
  go_ret
  exact ⟨rfl, F', h1, h2⟩

/-- Swap, not done -/
theorem mem_swapNo (w : World) (p : Nat) (F : List Nat) (m : MemS) (who old x : Int) (k : Nat) (hm : IsMem w p F m) (hk : k < m.cells.length) (hlog : m.log.length < 1099511627776) (hd : m.at k ≠ old) :
    Calls Try.prog 65 #[.pointer (some ⟨p, 0, none⟩), .int .i64 who, .int .i64 k, .int .u64 old, .int .u64 x] w fun e w' =>
      e = .returned (.bool false) ∧ ∃ F', IsMem w' p F' (m.put who 2 k (m.at k) false) ∧ Upd F F' w w' := by
  go_enter Try.func65, Try.ntmps65
  have H := Lib.hid hm
  clear hm
  go_wp2_with (go_at_call 61; refine (touch_swapNo w p F m who old x k H.out hk hlog hd).mono ?_; rintro e w' ⟨rfl, F', h1, h2⟩)
  go_ret
  exact ⟨rfl, F', h1, h2⟩

/-- Add -/
theorem mem_add (w : World) (p : Nat) (F : List Nat) (m : MemS) (who x : Int) (k : Nat) (hm : IsMem w p F m) (hk : k < m.cells.length) (hlog : m.log.length < 1099511627776) :
    Calls Try.prog 84 #[.pointer (some ⟨p, 0, none⟩), .int .i64 who, .int .i64 k, .int .u64 x] w fun e w' =>
      e = .returned (.int .u64 (m.at k)) ∧ ∃ F', IsMem w' p F' (m.put who 3 k ((m.at k + x) % 18446744073709551616) true) ∧ Upd F F' w w' := by
  go_enter Try.func84, Try.ntmps84
  have H := Lib.hid hm
  clear hm
  go_wp2_with (go_at_call 61; refine (touch_add w p F m who 0 x k H.out hk hlog).mono ?_; rintro e w' ⟨rfl, F', h1, h2⟩)
  go_ret
  exact ⟨rfl, F', h1, h2⟩

/-- Peek, Count: they only read. -/
theorem mem_peek (w : World) (p : Nat) (F : List Nat) (m : MemS) (k : Nat) (hm : IsMem w p F m) (hk : k < m.cells.length) :
    Calls Try.prog 24 #[.pointer (some ⟨p, 0, none⟩), .int .i64 k] w fun e w' => e = .returned (.int .u64 (m.at k)) ∧ w = w' := by
  obtain ⟨bc, lv, hF, b0, b1, hlw, hne, hlv⟩ := hm.ex
  have c0 : w.cell? ⟨p, 0, none⟩ = some (.slice (some ⟨bc, 0, none⟩) m.cells.length m.cells.length) := by rw [blk_cell b0]; rfl
  have cx : w.cell? ⟨bc, k, none⟩ = some (.int .u64 (m.at k)) := by rw [blk_cell b1, at_get m k hk]
  have h0 : 0 ≤ (k : Int) := Int.natCast_nonneg k
  have h1 : (k : Int) < (m.cells.length : Int) := by omega
  clear hm hF b0 b1 hlw hne hlv
  go_enter Try.func24, Try.ntmps24
  go_wp2_with (go_at_call 60; refine (there_yes p bc _ _ _ h0 h1 c0).mono ?_; rintro e w' ⟨rfl, rfl⟩)
  go_ret
  exact ⟨rfl, rfl⟩

theorem mem_count (w : World) (p : Nat) (F : List Nat) (m : MemS) (hm : IsMem w p F m) :
    Calls Try.prog 35 #[.pointer (some ⟨p, 0, none⟩)] w fun e w' => e = .returned (.int .i64 m.log.length) ∧ w = w' := by
  obtain ⟨bc, lv, hF, b0, b1, hlw, hne, hlv⟩ := hm.ex
  obtain ⟨ao, cap, rfl⟩ : ∃ ao cap, lv = .slice ao m.log.length cap := by
    rcases Go.Joins.ownsRow_forms hlw with ⟨rfl, h⟩ | ⟨g, cap, rfl⟩
    · rw [h]; exact ⟨_, _, rfl⟩
    · exact ⟨_, _, rfl⟩
  have c0 : w.cell? ⟨p, 1, none⟩ = some (.slice ao m.log.length cap) := by rw [blk_cell b0]; rfl
  clear hm hF b0 b1 hlw hne hlv
  go_enter Try.func35, Try.ntmps35
  go_wp2
  go_ret
  exact ⟨rfl, rfl⟩

end Go.Proofs.Ytkcimjcmlibgpaa
