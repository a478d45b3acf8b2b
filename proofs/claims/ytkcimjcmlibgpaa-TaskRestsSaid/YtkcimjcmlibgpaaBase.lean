/-
  Words on memory that all texts of this seat share: blocks, frames, the cells of a block. No condition.
-/
import Derived.Test.YtkcimjcmlibgpaaRows
import Derived.WalkKit
import Derived.WalkSpells
import Derived.WalkLawsBesides
import Derived.Deep.QuietTactic
import Derived.BigQuiet
import Derived.Deep.RegionHeld3
import Derived.Deep.DeepFit
import Derived.Lib.Hide
namespace Go.Proofs.Ytkcimjcmlibgpaa
open Go.RowKit

/-- Outside of the blocks of F nothing that was there has turned. -/
structure Frm (F : List Nat) (w w' : World) : Prop where
  os : w'.os = w.os
  tape : w'.tape = w.tape
  output : w'.output = w.output
  size : w.heap.size ≤ w'.heap.size
  block : ∀ k, k < w.heap.size → k ∉ F → w'.heap[k]? = w.heap[k]?

theorem Frm.refl (F : List Nat) (w : World) : Frm F w w := ⟨rfl, rfl, rfl, Nat.le_refl _, fun _ _ _ => rfl⟩

theorem Frm.trans {F G H : List Nat} {a b c : World} (h : Frm F a b) (k : Frm G b c) (hF : ∀ x, x < a.heap.size → x ∉ H → x ∉ F) (hG : ∀ x, x < a.heap.size → x ∉ H → x ∉ G) : Frm H a c :=
  ⟨k.os.trans h.os, k.tape.trans h.tape, k.output.trans h.output, Nat.le_trans h.size k.size,
    fun i hi hH => (k.block i (Nat.lt_of_lt_of_le hi h.size) (hG i hi hH)).trans (h.block i hi (hF i hi hH))⟩

/-- The footprint goes from F to F': what is new in F' is new memory. -/
structure Upd (F F' : List Nat) (w w' : World) : Prop extends Frm F w w' where
  grows : ∀ k, k ∈ F' → k ∈ F ∨ w.heap.size ≤ k

theorem Upd.refl (F : List Nat) (w : World) : Upd F F w w := ⟨Frm.refl F w, fun _ h => .inl h⟩

theorem Frm.alloc (F : List Nat) (w : World) (o : Obj) : Frm F w (w.alloc o) :=
  ⟨rfl, rfl, rfl, by simp, fun k hk _ => Below.heap_alloc w o k hk⟩
theorem Frm.drew (F : List Nat) (w : World) : Frm F w w.drew := ⟨rfl, rfl, rfl, Nat.le_refl _, fun _ _ _ => rfl⟩
theorem Frm.setCell {F : List Nat} (w : World) {a : Addr} (u : Value) (h : a.block ∈ F) : Frm F w (w.setCell a u) :=
  ⟨rfl, rfl, rfl, by simp [World.setCell], fun k _ hF => Below.heap_setCell w a u k (fun e => hF (e ▸ h))⟩
theorem Frm.grown {F : List Nat} {w w' : World} {row : Option Nat} (hg : w.grownBy w' row) (h : ∀ k, row = some k → k ∈ F) : Frm F w w' :=
  ⟨hg.os, hg.tape, hg.output, hg.size, fun k hk hF => hg.block k hk (fun e => hF (h k e.symm))⟩
theorem Frm.mono {F G : List Nat} {w w' : World} (h : Frm F w w') (hs : ∀ k, k ∈ F → k ∈ G) : Frm G w w' :=
  ⟨h.os, h.tape, h.output, h.size, fun k hk hG => h.block k hk (fun hF => hG (hs k hF))⟩
/-- Two steps with one list. -/
theorem Frm.tr {F : List Nat} {a b c : World} (h : Frm F a b) (k : Frm F b c) : Frm F a c := h.trans k (fun _ _ h => h) (fun _ _ h => h)
theorem Frm.below {w w' : World} (h : Frm [] w w') : Below w.heap.size w w' := ⟨h.os, h.tape, h.output, h.size, fun k hk => h.block k hk (by simp)⟩
theorem Frm.of_below {w w' : World} (h : Below w.heap.size w w') : Frm [] w w' := ⟨h.os, h.tape, h.output, h.size, fun k hk _ => h.block k hk⟩

/-- Block b is the row of the cells c; it may be written. -/
def Blk (w : World) (b : Nat) (c : Array Value) (t : TypeId) : Prop := w.heap[b]? = some (.cells c t (0, 0))

theorem blk_lt {w : World} {b : Nat} {c : Array Value} {t : TypeId} (h : Blk w b c t) : b < w.heap.size := (Array.getElem?_eq_some_iff.1 h).1
theorem blk_cell {w : World} {b : Nat} {c : Array Value} {t : TypeId} (h : Blk w b c t) (o : Nat) : w.cell? ⟨b, o, none⟩ = c[o]? := by
  unfold Blk at h; simp [World.cell?, h]
theorem blk_free {w : World} {b : Nat} {c : Array Value} {t : TypeId} (h : Blk w b c t) (o : Nat) : w.frozen? ⟨b, o, none⟩ = false := by
  unfold Blk at h; simp [World.frozen?, h]
theorem blk_set {w : World} {b : Nat} {c : Array Value} {t : TypeId} (h : Blk w b c t) (o : Nat) (v : Value) : Blk (w.setCell ⟨b, o, none⟩ v) b (c.setIfInBounds o v) t := by
  have hlt := blk_lt h
  have h' : w.heap[b] = .cells c t (0, 0) := by simpa [Blk, Array.getElem?_eq_getElem hlt] using h
  show (w.heap.modify b _)[b]? = _
  rw [Array.getElem?_eq_getElem (by simpa using hlt), Array.getElem_modify_self, h']
  rfl
theorem blk_other {w : World} {b : Nat} {c : Array Value} {t : TypeId} (h : Blk w b c t) {a : Addr} (ha : b ≠ a.block) (v : Value) : Blk (w.setCell a v) b c t := by
  unfold Blk at *; rw [Below.heap_setCell w a v b ha]; exact h
theorem blk_alloc {w : World} {b : Nat} {c : Array Value} {t : TypeId} (h : Blk w b c t) (o : Obj) : Blk (w.alloc o) b c t := by
  have hlt := blk_lt h
  unfold Blk at *; rw [Below.heap_alloc w o b hlt]; exact h
theorem blk_new (w : World) (c : Array Value) (t : TypeId) : Blk (w.alloc (.cells c t)) w.heap.size c t := heap_alloc_new w _
theorem blk_drew {w : World} {b : Nat} {c : Array Value} {t : TypeId} (h : Blk w b c t) : Blk w.drew b c t := h
theorem blk_frm {w w' : World} {b : Nat} {c : Array Value} {t : TypeId} (h : Blk w b c t) {F : List Nat} (k : Frm F w w') (hb : b ∉ F) : Blk w' b c t := by
  unfold Blk at *; rw [k.block b (Array.getElem?_eq_some_iff.1 h).1 hb]; exact h
theorem blk_same {w w' : World} {b : Nat} {c : Array Value} {t : TypeId} (h : Blk w b c t) (hs : w'.heap[b]? = w.heap[b]?) : Blk w' b c t := by
  unfold Blk at *; rw [hs]; exact h

theorem size_al (w : World) (o : Obj) : (w.alloc o).heap.size = w.heap.size + 1 := by simp
theorem size_sc (w : World) (a : Addr) (v : Value) : (w.setCell a v).heap.size = w.heap.size := by simp [World.setCell]

theorem new_cells {W : World} {l : List Value} {T : TypeId} {n : Nat} (hn : n = W.heap.size) : ∀ j u, l[j]? = some u → (W.alloc (.cells l.toArray T)).cell? ((⟨n, 0, none⟩ : Addr).add j) = some u := by
  subst hn
  intro j u hu
  rw [Addr.add_lit, blk_cell (blk_new W l.toArray T)]
  simpa using hu

/-- What the walk wants of a call that has only laid new blocks. -/
theorem frm_rules {w w' : World} (h : Frm [] w w') : (∀ b o, b < w.heap.size → w'.cell? ⟨b, o, none⟩ = w.cell? ⟨b, o, none⟩) ∧ (∀ b o, b < w.heap.size → w'.frozen? ⟨b, o, none⟩ = w.frozen? ⟨b, o, none⟩) ∧ w.heap.size ≤ w'.heap.size :=
  ⟨fun b o hb => World.cell?_of_block (a := ⟨b, o, none⟩) (h.block b hb (by simp)), fun b o hb => World.frozen?_of_block (a := ⟨b, o, none⟩) (h.block b hb (by simp)), h.size⟩
theorem ret_i {k : IntKind} {a b : Int} (h : a = b) : Ending.returned (.int k a) = .returned (.int k b) := by rw [h]
theorem ret_b {a b : Bool} (h : a = b) : Ending.returned (.bool a) = .returned (.bool b) := by rw [h]

theorem w64 {x : Int} (h0 : -9223372036854775808 ≤ x) (h1 : x < 9223372036854775808) : IntKind.i64.wrap x = x := IntWalk.i64_in _ (by omega)

end Go.Proofs.Ytkcimjcmlibgpaa
