/-
  Arguments that are lists, opened: of things, of bools, of numbers. No condition.
-/
import Derived.Test.YtkcimjcmlibgpaaRunB
import Derived.ProofKit
import Derived.OpenShut
import Derived.Below
import Derived.Deep.Slices
import Derived.Deep.Fields
namespace Go.Proofs.Ytkcimjcmlibgpaa
open Go.ChangeShapes Go.WideShapes Go.ChangeAt Go.RowKit Go.Deep

theorem Try.laidOut : laidOutB Try.prog = true := by kernel_rfl
theorem Try.own : ownKnob Try.prog.godebug = none := by kernel_rfl
theorem Try.cellsThg : Try.prog.cellsOf 50 = 6 := by kernel_rfl
theorem Try.cellsInt : Try.prog.cellsOf 3 = 1 := by kernel_rfl
theorem Try.cellsBool : Try.prog.cellsOf 4 = 1 := by kernel_rfl
theorem Try.cellsU : Try.prog.cellsOf 43 = 1 := by kernel_rfl

theorem u64_of {n : Int} (h : (Lit.int .u64 n).wf = true) : U64 n := by
  have := h
  simp [Lit.wf, IntKind.min, IntKind.max, IntKind.signed, IntKind.bits] at this
  exact ⟨by omega, by omega⟩
def I64 (x : Int) : Prop := -9223372036854775808 ≤ x ∧ x < 9223372036854775808
theorem i64_of {n : Int} (h : (Lit.int .i64 n).wf = true) : I64 n := by
  have := bounds_i64 h
  exact ⟨by omega, by omega⟩

/-- A list, as a slice that can be read. -/
def Lst {α : Type} (size : Nat) (vals : α → List Value) (zero : α) (w : World) (v : Value) (l : List α) : Prop :=
  (v = .slice none 0 0 ∧ l = []) ∨ ∃ (a : Addr) (cap : Nat), v = .slice (some a) l.length cap ∧ (0 < l.length → a.block < w.heap.size) ∧ ∀ i, i < l.length → ∀ j, j < size → w.cell? ((a.add (i * size)).add j) = (vals (l.getD i zero))[j]?

theorem Lst.ext {α : Type} {size : Nat} {vals : α → List Value} {zero : α} {w w' : World} {v : Value} {l : List α} (h : Lst size vals zero w v l) (q : Frm [] w w') : Lst size vals zero w' v l := by
  rcases h with h | ⟨a, cap, h1, h2, h3⟩
  · exact .inl h
  · refine .inr ⟨a, cap, h1, fun hp => Nat.lt_of_lt_of_le (h2 hp) q.size, fun i hi j hj => ?_⟩
    rw [← h3 i hi j hj]
    exact World.cell?_of_block (by rw [blk_add, blk_add]; exact q.block a.block (h2 (by omega)) (by simp))

theorem Lst.shape {α : Type} {size : Nat} {vals : α → List Value} {zero : α} {w : World} {v : Value} {l : List α} (h : Lst size vals zero w v l) :
    ∃ ao cap, v = .slice ao l.length cap ∧ ∀ k, k < l.length → ∃ a, ao = some a ∧ a.block < w.heap.size ∧ ∀ j, j < size → w.cell? ((a.add (k * size)).add j) = (vals (l.getD k zero))[j]? := by
  rcases h with ⟨rfl, rfl⟩ | ⟨a, cap, rfl, h2, h3⟩
  · exact ⟨_, _, rfl, fun k hk => by simp at hk⟩
  · exact ⟨_, _, rfl, fun k hk => ⟨a, rfl, h2 (by omega), h3 k hk⟩⟩

def bvals (b : Bool) : List Value := [.bool b]
def ivals (x : Int) : List Value := [.int .i64 x]
def uvals (x : Int) : List Value := [.int .u64 x]
abbrev LstB := Lst 1 bvals false
abbrev LstI := Lst 1 ivals 0
abbrev LstU := Lst 1 uvals 0

section
variable {H : Type} {enc : TypeId × Value → H} {w : World} {base : Nat} {spare : Nat → Bool} {held : Bool}

theorem open_lst {α : Type} {t e : TypeId} {size : Nat} {vals : α → List Value} {Good : α → Prop} (zero : α) (hs : 0 < size) (ht : Try.prog.underlying t = some (.slice e)) (hC : Try.prog.cellsOf e = size)
    (hopen : ∀ fuel cs x, DataW.trod enc Try.prog w base spare held fuel e cs = some x → cs.length = size → ∃ y : α, cs = vals y ∧ Good y) (hvl : ∀ y, (vals y).length = size)
    {v : Value} {d : DataW H} {ps : List MemPlace} (hv : ∃ a len cap, v = .slice a len cap) (h : DataW.Trod enc Try.prog w base spare held t v d ps) :
    ∃ l : List α, Lst size vals zero w v l ∧ ∀ x ∈ l, Good x := by
  obtain ⟨a0, len0, cap0, rfl⟩ := hv
  obtain ⟨fuel, hf⟩ := h
  rcases open_slice ht hf with ⟨hcs, _⟩ | ⟨a, len, cap, m, n, D, Pl, hcs, _, hl, hm, hmm, _, hi⟩
  · simp [Value.cells] at hcs
    obtain ⟨rfl, rfl, rfl⟩ := hcs
    exact ⟨[], .inl ⟨rfl, rfl⟩, by simp⟩
  · simp [Value.cells] at hcs
    obtain ⟨rfl, rfl, rfl⟩ := hcs
    have hlm : len0 ≤ m := by rw [hmm]; split <;> omega
    have hex : ∀ i, i < len0 → ∃ t : α, Good t ∧ ∀ j, j < size → w.cell? ((a.add (i * size)).add j) = (vals t)[j]? := fun i hil => by
      obtain ⟨cs', hc, ht⟩ := hi i (by omega)
      rw [hC] at hc
      obtain ⟨_, hcl, hat⟩ := World.cells?_some hc
      obtain ⟨t, rfl, hu⟩ := hopen _ _ _ ht hcl
      exact ⟨t, hu, fun j hj => hat j hj⟩
    have hex' : ∀ i, ∃ t : α, i < len0 → Good t ∧ ∀ j, j < size → w.cell? ((a.add (i * size)).add j) = (vals t)[j]? := fun i => by
      by_cases h : i < len0
      · obtain ⟨t, ht⟩ := hex i h; exact ⟨t, fun _ => ht⟩
      · exact ⟨zero, fun h' => absurd h' h⟩
    obtain ⟨T, hT⟩ := Classical.axiomOfChoice hex'
    refine ⟨(List.range len0).map T, .inr ⟨a, cap0, by simp, fun hp => ?_, fun i hil j hj => ?_⟩, fun x hx => ?_⟩
    · have h0 := (hT 0 (by simpa using hp)).2 0 hs
      have h1 : (vals (T 0))[0]? = some ((vals (T 0))[0]'(by rw [hvl]; exact hs)) := List.getElem?_eq_getElem _
      rw [h1] at h0
      rcases Nat.lt_or_ge a.block w.heap.size with h | h
      · exact h
      · exfalso
        have hb : w.heap[((a.add (0 * size)).add 0).block]? = none := by rw [blk_add, blk_add]; exact Array.getElem?_eq_none h
        unfold World.cell? at h0
        rw [hb] at h0
        simp at h0
    · have hil' : i < len0 := by simpa using hil
      rw [(hT i hil').2 j hj]
      simp [List.getD, hil']
    · obtain ⟨i, hi', rfl⟩ := List.mem_map.1 hx
      exact (hT i (List.mem_range.1 hi')).1

/-- A struct of one-cell fields: each field's own reading. -/
theorem trod_fields {t : TypeId} {fs : Array Field} {fuel : Nat} {cs : List Value} {x : DataW H × List MemPlace} (ht : Try.prog.underlying t = some (.struct fs)) (hone : oneCellFields Try.prog fs = true)
    (h : DataW.trod enc Try.prog w base spare held fuel t cs = some x) (hl : cs.length = fs.size) : ∃ n, ∀ (j : Nat) (hj : j < fs.size), ∃ y, DataW.trod enc Try.prog w base spare held n (fs[j]).type [cs[j]'(by omega)] = some y := by
  obtain ⟨xs, n, _, _, _, hxl, hf⟩ := DataW.trod_struct ht h
  refine ⟨n, fun j hj => ?_⟩
  have hg : fs[j]? = some fs[j] := Array.getElem?_eq_getElem hj
  obtain ⟨ho, hk⟩ := hone_of hone j _ hg
  have h1 := hf j _ hg
  rw [ho, hk] at h1
  have e : (cs.drop j).take 1 = [cs[j]'(by omega)] := by
    rw [List.drop_eq_getElem_cons (by omega)]
    rfl
  rw [e, List.getElem?_eq_getElem (by omega)] at h1
  exact ⟨_, h1⟩

theorem open_thing {fuel : Nat} {cs : List Value} {x : DataW H × List MemPlace} (h : DataW.trod enc Try.prog w base spare held fuel 50 cs = some x) (hl : cs.length = 6) :
    ∃ t : Thg, cs = t.vals ∧ U64 t.value := by
  obtain ⟨n, hf⟩ := trod_fields Try.underlying50 (by kernel_rfl) h hl
  match cs, hl with
  | [v0, v1, v2, v3, v4, v5], _ =>
    obtain ⟨_, h0⟩ := hf 0 (by decide)
    obtain ⟨_, h1⟩ := hf 1 (by decide)
    obtain ⟨_, h2⟩ := hf 2 (by decide)
    obtain ⟨_, h3⟩ := hf 3 (by decide)
    obtain ⟨_, h4⟩ := hf 4 (by decide)
    obtain ⟨_, h5⟩ := hf 5 (by decide)
    obtain ⟨a0, e0, _, _⟩ := DataW.trod_int Try.underlying3 h0
    obtain ⟨a1, e1, _, _⟩ := DataW.trod_int Try.underlying3 h1
    obtain ⟨a2, e2, _, _⟩ := DataW.trod_int Try.underlying3 h2
    obtain ⟨a3, e3, _, _⟩ := DataW.trod_int Try.underlying3 h3
    obtain ⟨a4, e4, _⟩ := DataW.trod_bool Try.underlying4 h4
    obtain ⟨a5, e5, _, w5⟩ := DataW.trod_int Try.underlying43 h5
    simp only [List.cons.injEq, and_true] at e0 e1 e2 e3 e4 e5
    obtain rfl : v0 = _ := e0
    obtain rfl : v1 = _ := e1
    obtain rfl : v2 = _ := e2
    obtain rfl : v3 = _ := e3
    obtain rfl : v4 = _ := e4
    obtain rfl : v5 = _ := e5
    exact ⟨⟨a0, a1, a2, a3, a4, a5⟩, rfl, u64_of w5⟩

theorem open_things {v : Value} {d : DataW H} {ps : List MemPlace} (hv : ∃ a len cap, v = .slice a len cap) (h : DataW.Trod enc Try.prog w base spare held 22 v d ps) :
    ∃ l : List Thg, LstT w v l ∧ ∀ x ∈ l, U64 x.value :=
  open_lst Thg.zero (by decide) Try.underlying22 Try.cellsThg (fun _ _ _ h hl => open_thing h hl) (fun _ => rfl) hv h

theorem open_bools {v : Value} {d : DataW H} {ps : List MemPlace} (hv : ∃ a len cap, v = .slice a len cap) (h : DataW.Trod enc Try.prog w base spare held 23 v d ps) :
    ∃ l : List Bool, LstB w v l :=
  (open_lst (Good := fun _ => True) false (by decide) Try.underlying23 Try.cellsBool (fun _ cs _ h hl => by
    match cs, hl with
    | [c], _ =>
      obtain ⟨b, e, _⟩ := DataW.trod_bool Try.underlying4 h
      exact ⟨b, by simpa [bvals] using e, trivial⟩) (fun _ => rfl) hv h).imp fun _ h => h.1

theorem open_nums {v : Value} {d : DataW H} {ps : List MemPlace} (hv : ∃ a len cap, v = .slice a len cap) (h : DataW.Trod enc Try.prog w base spare held 31 v d ps) :
    ∃ l : List Int, LstI w v l ∧ ∀ x ∈ l, I64 x :=
  open_lst 0 (by decide) Try.underlying31 Try.cellsInt (fun _ cs _ h hl => by
    match cs, hl with
    | [c], _ =>
      obtain ⟨b, e, _, wf⟩ := DataW.trod_int Try.underlying3 h
      exact ⟨b, by simpa [ivals] using e, i64_of wf⟩) (fun _ => rfl) hv h

theorem open_unums {v : Value} {d : DataW H} {ps : List MemPlace} (hv : ∃ a len cap, v = .slice a len cap) (h : DataW.Trod enc Try.prog w base spare held 33 v d ps) :
    ∃ l : List Int, LstU w v l ∧ ∀ x ∈ l, U64 x :=
  open_lst 0 (by decide) Try.underlying33 Try.cellsU (fun _ cs _ h hl => by
    match cs, hl with
    | [c], _ =>
      obtain ⟨b, e, _, wf⟩ := DataW.trod_int Try.underlying43 h
      exact ⟨b, by simpa [uvals] using e, u64_of wf⟩) (fun _ => rfl) hv h
end

end Go.Proofs.Ytkcimjcmlibgpaa
