/-
  Package mem: what its methods do to the cells and to the log. Each condition stands in its theorem.
-/
import Derived.Test.YtkcimjcmlibgpaaBase
import Derived.Lib.SmallJoins
namespace Go.Proofs.Ytkcimjcmlibgpaa
open Go.RowKit

/-- An event that is noted. -/
structure Ev where
  who : Int
  op : Int
  cell : Int
  old : Int
  new : Int
  ok : Bool
  deriving DecidableEq

/-- Cells, and all that was noted of them. -/
structure MemS where
  cells : List Int
  log : List Ev

def Ev.vals (e : Ev) : List Value := [.int .i64 e.who, .int .i64 e.op, .int .i64 e.cell, .int .u64 e.old, .int .u64 e.new, .bool e.ok]
def evVals (l : List Ev) : List Value := l.flatMap Ev.vals
theorem evVals_len (l : List Ev) : (evVals l).length = l.length * 6 := by
  induction l with
  | nil => rfl
  | cons e l ih => simp only [evVals, List.flatMap_cons, List.length_append, List.length_cons] at *; simp [ih, Ev.vals]; omega
theorem evVals_snoc (l : List Ev) (e : Ev) : evVals (l ++ [e]) = evVals l ++ e.vals := by simp [evVals]

def MemS.at (m : MemS) (k : Nat) : Int := m.cells.getD k 0
/-- Cell k turned to x, and noted. -/
def MemS.put (m : MemS) (who op : Int) (k : Nat) (x : Int) (ok : Bool) : MemS := ⟨m.cells.set k x, m.log ++ [⟨who, op, k, m.at k, x, ok⟩]⟩

/-- A word of 64 bits. -/
def U64 (x : Int) : Prop := 0 ≤ x ∧ x < 18446744073709551616

/-- The slice lv holds the events l, in memory of its own. -/
def lvBlocks (lv : Value) : List Nat := lv.ownBlock.toList

structure IsMem (w : World) (p : Nat) (F : List Nat) (m : MemS) : Prop where
  ex : ∃ bc lv, F = p :: bc :: lvBlocks lv ∧
    Blk w p #[.slice (some ⟨bc, 0, none⟩) m.cells.length m.cells.length, lv] 106 ∧
    Blk w bc (m.cells.map (Value.int .u64)).toArray 43 ∧
    w.ownsRow 0 78 6 lv m.log.length (evVals m.log) ∧ p ≠ bc ∧ (∀ g, lv.ownBlock = some g → g ≠ p ∧ g ≠ bc)
  bd : ∀ x ∈ m.cells, U64 x

theorem IsMem.head {w : World} {p : Nat} {F : List Nat} {m : MemS} (h : IsMem w p F m) : p ∈ F := by
  obtain ⟨bc, lv, rfl, _⟩ := h.ex; simp

theorem IsMem.lt {w : World} {p : Nat} {F : List Nat} {m : MemS} (h : IsMem w p F m) : ∀ k ∈ F, k < w.heap.size := by
  obtain ⟨bc, lv, rfl, h1, h2, h3, _⟩ := h.ex
  intro k hk
  simp only [List.mem_cons, lvBlocks, Option.mem_toList] at hk
  rcases hk with rfl | rfl | hk
  · exact blk_lt h1
  · exact blk_lt h2
  · exact (h3.lt k hk).2

theorem IsMem.keep {w w' : World} {p : Nat} {F : List Nat} {m : MemS} (h : IsMem w p F m) (hs : ∀ k ∈ F, w'.heap[k]? = w.heap[k]?) : IsMem w' p F m := by
  obtain ⟨bc, lv, rfl, h1, h2, h3, h4, h5⟩ := h.ex
  refine ⟨⟨bc, lv, rfl, blk_same h1 (hs _ (by simp)), blk_same h2 (hs _ (by simp)), ?_, h4, h5⟩, h.bd⟩
  refine ⟨h3.1, ?_⟩
  rcases h3.2 with hn | ⟨g, cap, cur, rfl, hb, hgg, rest⟩
  · exact .inl hn
  · exact .inr ⟨g, cap, cur, rfl, hb, by rw [hs g (by simp [lvBlocks, Value.ownBlock])]; exact hgg, rest⟩

theorem IsMem.frm {w w' : World} {p : Nat} {F G : List Nat} {m : MemS} (h : IsMem w p F m) (k : Frm G w w') (hd : ∀ x, x ∈ F → x ∉ G) : IsMem w' p F m :=
  h.keep fun x hx => k.block x (h.lt x hx) (hd x hx)

theorem Try.infoEv : (Try.prog.info? 78).map (fun i => (i.zero, i.size, i.bytes)) = some (some (.agg #[.int .i64 0, .int .i64 0, .int .i64 0, .int .u64 0, .int .u64 0, .bool false]), 6, 48) := by kernel_rfl

theorem at_get (m : MemS) (k : Nat) (h : k < m.cells.length) : (m.cells.map (Value.int .u64)).toArray[k]? = some (.int .u64 (m.at k)) := by
  simp [MemS.at, List.getD, h]

theorem there_yes (p bc n : Nat) (cell : Int) (w : World) (h0 : 0 ≤ cell) (h1 : cell < n) (c0 : w.cell? ⟨p, 0, none⟩ = some (.slice (some ⟨bc, 0, none⟩) n n)) :
    Calls Try.prog 60 #[.pointer (some ⟨p, 0, none⟩), .int .i64 cell] w fun e w' => e = .returned (.bool true) ∧ w = w' := by
  go_enter Try.func60, Try.ntmps60
  go_wp2
  go_ret
  exact ⟨rfl, rfl⟩

/-- What stands behind the append, put together. -/
theorem touch_end {w w1 w' : World} {p : Nat} {F : List Nat} {m : MemS} (bc : Nat) (lv : Value) (g cap : Nat) (k : Nat) (who op x : Int) (ok : Bool) (o : Obj)
    (hF : F = p :: bc :: lvBlocks lv) (hbd : ∀ y ∈ m.cells, U64 y) (hx : U64 x)
    (b0 : Blk w p #[.slice (some ⟨bc, 0, none⟩) m.cells.length m.cells.length, lv] 106) (b1 : Blk w bc (m.cells.map (Value.int .u64)).toArray 43)
    (hne : p ≠ bc) (hlv : ∀ g, lv.ownBlock = some g → g ≠ p ∧ g ≠ bc) 
    (hw1 : w1 = (w.setCell ⟨bc, k, none⟩ (.int .u64 x)).alloc o)
    (hown : w'.ownsRow 0 78 6 (.slice (some ⟨g, 0, none⟩) (m.log.length + 1) cap) (m.log.length + 1) (evVals m.log ++ (⟨who, op, k, m.at k, x, ok⟩ : Ev).vals))
    (hgrow : w1.grownBy w' lv.ownBlock) (hnew : lv.ownBlock = some g ∨ w1.heap.size ≤ g) :
    ∃ F', IsMem (w'.setCell ⟨p, 1, none⟩ (.slice (some ⟨g, 0, none⟩) (m.log.length + 1) cap)) p F' (m.put who op k x ok) ∧
      Upd F F' w (w'.setCell ⟨p, 1, none⟩ (.slice (some ⟨g, 0, none⟩) (m.log.length + 1) cap)) := by
  subst hF hw1
  have hs : (w.setCell ⟨bc, k, none⟩ (.int .u64 x)).heap.size = w.heap.size := by simp [World.setCell]
  have l0 := blk_lt b0
  have l1 := blk_lt b1
  have hgp : g ≠ p ∧ g ≠ bc := by
    rcases hnew with h | h
    · exact hlv g h
    · simp only [size_al, hs] at h; constructor <;> omega
  have a0 : Blk w' p #[.slice (some ⟨bc, 0, none⟩) m.cells.length m.cells.length, lv] 106 := by
    refine blk_same (blk_alloc (blk_other b0 hne _) _) (hgrow.block p (by simp [hs]; omega) (fun e => ?_))
    exact (hlv p e.symm).1 rfl
  have a1 : Blk w' bc ((m.cells.set k x).map (Value.int .u64)).toArray 43 := by
    have := blk_set b1 k (.int .u64 x)
    have h2 : (m.cells.map (Value.int .u64)).toArray.setIfInBounds k (.int .u64 x) = ((m.cells.set k x).map (Value.int .u64)).toArray := by simp [List.map_set]
    rw [h2] at this
    refine blk_same (blk_alloc this _) (hgrow.block bc (by simp [hs]; omega) (fun e => ?_))
    exact (hlv bc e.symm).2 rfl
  refine ⟨p :: bc :: [g], ⟨⟨bc, .slice (some ⟨g, 0, none⟩) (m.log.length + 1) cap, rfl, ?_, ?_, ?_, hne, ?_⟩, ?_⟩, ?_, ?_⟩
  · have := blk_set a0 1 (.slice (some ⟨g, 0, none⟩) (m.log.length + 1) cap)
    simpa [MemS.put] using this
  · simp only [MemS.put]
    exact blk_other a1 (Ne.symm hne) _
  · have hl : (m.put who op k x ok).log.length = m.log.length + 1 := by simp [MemS.put]
    have hv : evVals (m.put who op k x ok).log = evVals m.log ++ (⟨who, op, k, m.at k, x, ok⟩ : Ev).vals := by simp [MemS.put, evVals_snoc]
    rw [hl, hv]
    exact ownsRow_setCell_other hown (by simp only [Value.ownBlock]; intro e; exact hgp.1 (Option.some.inj e)) _
  · intro g' hg'
    simp only [Value.ownBlock, Option.some.injEq] at hg'
    subst hg'; exact hgp
  · intro y hy
    simp only [MemS.put] at hy
    rcases List.mem_or_eq_of_mem_set hy with h | h
    · exact hbd y h
    · subst h; exact hx
  · have f1 : Frm (p :: bc :: lvBlocks lv) w (w.setCell ⟨bc, k, none⟩ (.int .u64 x)) := Frm.setCell _ _ (by simp)
    have f2 : Frm (p :: bc :: lvBlocks lv) (w.setCell ⟨bc, k, none⟩ (.int .u64 x)) _ := Frm.alloc _ _ o
    have f3 : Frm (p :: bc :: lvBlocks lv) _ w' := Frm.grown hgrow (by intro k hk; simp [lvBlocks, hk])
    have f4 : Frm (p :: bc :: lvBlocks lv) w' (w'.setCell ⟨p, 1, none⟩ (.slice (some ⟨g, 0, none⟩) (m.log.length + 1) cap)) := Frm.setCell _ _ (by simp)
    exact ((f1.tr f2).tr f3).tr f4
  · intro y hy
    simp only [List.mem_cons, List.not_mem_nil, or_false] at hy
    rcases hy with rfl | rfl | rfl
    · simp
    · simp
    · rcases hnew with h | h
      · left; simp [lvBlocks, h]
      · right; simp only [size_al, hs] at h; omega


end Go.Proofs.Ytkcimjcmlibgpaa
