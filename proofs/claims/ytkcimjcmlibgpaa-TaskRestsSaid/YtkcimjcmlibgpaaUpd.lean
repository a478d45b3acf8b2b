/-
  How footprints go on: steps one behind the other; what a struct's block holds behind a step. No condition.
-/
import Derived.Test.YtkcimjcmlibgpaaMem2
import Derived.Test.YtkcimjcmlibgpaaLay
import Derived.Test.YtkcimjcmlibgpaaWord
namespace Go.Proofs.Ytkcimjcmlibgpaa
open Go.RowKit

theorem Upd.trans {F G H : List Nat} {a b c : World} (h : Upd F G a b) (k : Upd G H b c) : Upd F H a c := by
  refine ⟨⟨k.os.trans h.os, k.tape.trans h.tape, k.output.trans h.output, Nat.le_trans h.size k.size, fun i hi hF => ?_⟩, fun i hi => ?_⟩
  · have hG : i ∉ G := fun hg => by
      rcases h.grows i hg with h1 | h1
      · exact hF h1
      · omega
    exact (k.block i (Nat.lt_of_lt_of_le hi h.size) hG).trans (h.block i hi hF)
  · rcases k.grows i hi with h1 | h1
    · exact h.grows i h1
    · exact .inr (Nat.le_trans h.size h1)

theorem Upd.of_frm (F : List Nat) {a b : World} (h : Frm [] a b) : Upd F F a b :=
  ⟨h.mono (by simp), fun _ hk => .inl hk⟩
theorem Upd.drew (F : List Nat) (a : World) : Upd F F a a.drew := .of_frm F (Frm.drew _ _)
theorem Upd.al (F : List Nat) (a : World) (o : Obj) : Upd F F a (a.alloc o) := .of_frm F (Frm.alloc _ _ _)
theorem Upd.more {F G : List Nat} {a b : World} (t : Nat) (h : Upd F G a b) : Upd (t :: F) (t :: G) a b :=
  ⟨h.toFrm.mono (by intro k hk; simp [hk]), fun k hk => by
    rcases List.mem_cons.1 hk with rfl | hk
    · exact .inl (by simp)
    · rcases h.grows k hk with h1 | h1
      · exact .inl (by simp [h1])
      · exact .inr h1⟩
theorem Upd.set (F : List Nat) (t o : Nat) (a : World) (v : Value) (ht : t ∈ F) : Upd F F a (a.setCell ⟨t, o, none⟩ v) :=
  ⟨Frm.setCell a v ht, fun _ hk => .inl hk⟩
theorem Upd.not {F G : List Nat} {a b : World} (h : Upd F G a b) {t : Nat} (ht : t < a.heap.size) (hn : t ∉ F) : t ∉ G := fun hg => by
  rcases h.grows t hg with h1 | h1
  · exact hn h1
  · omega

theorem IsMem.drew {w : World} {p : Nat} {F : List Nat} {m : MemS} (h : IsMem w p F m) : IsMem w.drew p F m := h.keep fun _ _ => rfl
theorem IsMem.ext {w w' : World} {p : Nat} {F : List Nat} {m : MemS} (h : IsMem w p F m) (k : Frm [] w w') : IsMem w' p F m := h.frm k (by simp)
theorem IsMem.alloc {w : World} {p : Nat} {F : List Nat} {m : MemS} (h : IsMem w p F m) (o : Obj) : IsMem (w.alloc o) p F m := h.ext (Frm.alloc _ _ _)
theorem IsMem.set {w : World} {p : Nat} {F : List Nat} {m : MemS} (h : IsMem w p F m) {t o : Nat} (ht : t ∉ F) (v : Value) : IsMem (w.setCell ⟨t, o, none⟩ v) p F m :=
  h.frm (G := [t]) (Frm.setCell w v (by simp)) (by intro x hx e; simp at e; subst e; exact ht hx)

/-- What the walk wants of a struct's block, but of field x. -/
def Fld (w : World) (b : Nat) (c : Array Value) (x : Nat) : Prop := (∀ o, o ≠ x → w.cell? ⟨b, o, none⟩ = c[o]?) ∧ (∀ o, w.frozen? ⟨b, o, none⟩ = false)
theorem fld_of {w : World} {b : Nat} {c : Array Value} {t : TypeId} (h : Blk w b c t) (x : Nat) : (∀ o, o ≠ x → w.cell? ⟨b, o, none⟩ = c[o]?) ∧ (∀ o, w.frozen? ⟨b, o, none⟩ = false) :=
  ⟨fun o _ => blk_cell h o, fun o => blk_free h o⟩
theorem fld_set {w : World} {b : Nat} {c : Array Value} {t : TypeId} (h : Blk w b c t) (x : Nat) (v : Value) : (∀ o, o ≠ x → (w.setCell ⟨b, x, none⟩ v).cell? ⟨b, o, none⟩ = c[o]?) ∧ (∀ o, (w.setCell ⟨b, x, none⟩ v).frozen? ⟨b, o, none⟩ = false) :=
  ⟨fun o ho => by rw [blk_cell (blk_set h x v)]; simp [Ne.symm ho], fun o => blk_free (blk_set h x v) o⟩
theorem blk_S {w : World} {b : Nat} {c : Array Value} {t : TypeId} (h : Blk w b c t) : (∀ o, w.cell? ⟨b, o, none⟩ = c[o]?) ∧ (∀ o, w.frozen? ⟨b, o, none⟩ = false) := ⟨fun o => blk_cell h o, fun o => blk_free h o⟩

/-- How many threads, how many places each, where stamps come from. -/
structure Cf where
  t : Nat
  s : Nat
  src : Int
  del : Int

/-- Cells that fit a layout; n: how many places. -/
structure Fits (c : Cf) (n : Nat) (m : MemS) : Prop where
  hn : n = c.t * c.s
  t0 : 1 ≤ c.t
  t1 : c.t ≤ 64
  s0 : 1 ≤ c.s
  s1 : c.s ≤ 64
  len : m.cells.length = 2 * n + 2 * c.t

theorem Fits.put {c : Cf} {n : Nat} {m : MemS} (h : Fits c n m) (who op : Int) (k : Nat) (x : Int) (ok : Bool) : Fits c n (m.put who op k x ok) :=
  ⟨h.hn, h.t0, h.t1, h.s0, h.s1, by simp [MemS.put, h.len]⟩
theorem Fits.le {c : Cf} {n : Nat} {m : MemS} (h : Fits c n m) : n ≤ 4096 := by rw [h.hn]; exact Nat.mul_le_mul h.t1 h.s1
theorem Fits.pos {c : Cf} {n : Nat} {m : MemS} (h : Fits c n m) : 1 ≤ n := by rw [h.hn]; exact Nat.mul_le_mul h.t0 h.s0
theorem put_log (m : MemS) (who op : Int) (k : Nat) (x : Int) (ok : Bool) : (m.put who op k x ok).log.length = m.log.length + 1 := by simp [MemS.put]

end Go.Proofs.Ytkcimjcmlibgpaa
