/-
  Package get: a new one; what it tells. Conditions: there are threads and places.
-/
import Derived.Test.YtkcimjcmlibgpaaGetC
namespace Go.Proofs.Ytkcimjcmlibgpaa
open Go.RowKit

set_option maxHeartbeats 1000000 in
theorem get_new (w : World) (ct cs who n : Nat) (src del en start : Int) (ht : ct ≤ 64) (hs : cs ≤ 64) (hn : n = ct * cs) (hn0 : 1 ≤ n) :
    Calls Try.prog 18 #[.agg #[.int .i64 ct, .int .i64 cs, .int .i64 src, .int .i64 del], .int .i64 who, .int .i64 en, .int .i64 start] w fun e w' =>
      ∃ gb G, e = .returned (.pointer (some ⟨gb, 0, none⟩)) ∧ IsGet w' gb G (get0 ⟨ct, cs, src, del⟩ who n en start) ∧ Frm [] w w' ∧ ∀ x ∈ G, w.heap.size ≤ x := by
  have HN := Lib.hid (fun w2 => snap_new w2 ct cs who n src del start ht hs hn hn0)
  clear ht hs hn hn0
  go_enter Try.func18, Try.ntmps18
  go_wp2_with fail
  go_region_held3 (fun w' => (∀ o, w'.cell? ⟨w.heap.size, o, none⟩ = (#[.int .i64 ct, .int .i64 cs, .int .i64 src, .int .i64 del] : Array Value)[o]?))
    (first | exact fun o => blk_cell (blk_drew (blk_new w _ 27)) o | exact fun o => blk_cell B1 o | exact fun o => blk_cell (blk_alloc B1 _) o)
    (first | (go_at_call 36; refine (HN.out _).mono ?_; rintro e w1 ⟨sb, wb, rfl, hsb, hwb, S1, q1⟩; have B1 := blk_frm (blk_drew (blk_new w _ 27)) q1 (by simp)))
  have hz1 : w.heap.size + 1 ≤ sb := by
    have a3 : ((w.alloc (.cells #[.int .i64 ct, .int .i64 cs, .int .i64 src, .int .i64 del] 27)).drew).heap.size = w.heap.size + 1 := size_al _ _
    omega
  have hz2 : w.heap.size + 1 ≤ wb := by
    have a3 : ((w.alloc (.cells #[.int .i64 ct, .int .i64 cs, .int .i64 src, .int .i64 del] 27)).drew).heap.size = w.heap.size + 1 := size_al _ _
    omega
  have hl1 := blk_lt S1.row
  have hl2 := blk_lt S1.words
  have HS1 := Lib.hid S1
  have HQ1 := Lib.hid (((Frm.alloc [] w (.cells #[.int .i64 ct, .int .i64 cs, .int .i64 src, .int .i64 del] 27)).tr (Frm.drew _ _)).tr q1)
  clear S1 q1 B1 HN
  go_wp2
  go_ret
  refine ⟨w1.heap.size, [w1.heap.size, sb, wb], rfl, ⟨.inl ⟨sb, wb, rfl, rfl, ?_, HS1.out.frm (Frm.alloc [] _ _) (by simp) (by simp), by omega, by omega⟩⟩, HQ1.out.tr (Frm.alloc _ _ _), ?_⟩
  · exact blk_new _ _ _
  · intro x hx
    simp only [List.mem_cons, List.not_mem_nil, or_false] at hx
    omega

theorem get_S {w : World} {gb : Nat} {G : List Nat} {g : GetS} (h : IsGet w gb G g) : ∃ sp tp, Blk w gb (g.row sp tp) 103 := by
  rcases h.ex with ⟨sb, wb, _, _, hb, _⟩ | ⟨t, tb, sp, _, _, hb, _⟩
  · exact ⟨_, _, hb⟩
  · exact ⟨_, _, hb⟩

theorem get_phase (w : World) (gb : Nat) (G : List Nat) (g : GetS) (h : IsGet w gb G g) :
    Calls Try.prog 22 #[.pointer (some ⟨gb, 0, none⟩)] w fun e w' => e = .returned (.int .i64 g.phase) ∧ w = w' := by
  obtain ⟨sp, tp, hb⟩ := get_S h
  obtain ⟨hrc, hrf⟩ := blk_S hb
  obtain ⟨⟨ct, cs, src, del⟩, who, en, start, snap, take, tries, value, phase⟩ := g
  simp only [GetS.row] at *
  clear hb h
  go_enter Try.func22, Try.ntmps22
  go_wp2
  go_ret
  exact ⟨rfl, rfl⟩

theorem get_value (w : World) (gb : Nat) (G : List Nat) (g : GetS) (h : IsGet w gb G g) :
    Calls Try.prog 23 #[.pointer (some ⟨gb, 0, none⟩)] w fun e w' => e = .returned (.int .u64 g.value) ∧ w = w' := by
  obtain ⟨sp, tp, hb⟩ := get_S h
  obtain ⟨hrc, hrf⟩ := blk_S hb
  obtain ⟨⟨ct, cs, src, del⟩, who, en, start, snap, take, tries, value, phase⟩ := g
  simp only [GetS.row] at *
  clear hb h
  go_enter Try.func23, Try.ntmps23
  go_wp2
  go_ret
  exact ⟨rfl, rfl⟩

theorem get_tries (w : World) (gb : Nat) (G : List Nat) (g : GetS) (h : IsGet w gb G g) :
    Calls Try.prog 34 #[.pointer (some ⟨gb, 0, none⟩)] w fun e w' => e = .returned (.int .i64 g.tries) ∧ w = w' := by
  obtain ⟨sp, tp, hb⟩ := get_S h
  obtain ⟨hrc, hrf⟩ := blk_S hb
  obtain ⟨⟨ct, cs, src, del⟩, who, en, start, snap, take, tries, value, phase⟩ := g
  simp only [GetS.row] at *
  clear hb h
  go_enter Try.func34, Try.ntmps34
  go_wp2
  go_ret
  exact ⟨rfl, rfl⟩

theorem get_alone (w : World) (ct cs n : Nat) (src del : Int) (ht : ct ≤ 64) (hs : cs ≤ 64) (hn : n = ct * cs) :
    Calls Try.prog 20 #[.agg #[.int .i64 ct, .int .i64 cs, .int .i64 src, .int .i64 del]] w fun e w' => e = .returned (.int .i64 (2 * (n : Int) + 5)) ∧ Frm [] w w' := by
  have hle := mul_le ct cs ht hs
  rw [← hn] at hle
  have h1 : IntKind.i64.wrap (2 * (n : Int)) = 2 * (n : Int) := w64 (by omega) (by omega)
  have h2 : IntKind.i64.wrap (2 * (n : Int) + 5) = 2 * (n : Int) + 5 := w64 (by omega) (by omega)
  have HL := Lib.hid (fun w2 => lay_all w2 ct cs src del ht hs n hn)
  clear ht hs hn
  go_enter Try.func20, Try.ntmps20
  go_wp2_with (go_at_call 26; refine (HL.out _).mono ?_; rintro e w1 ⟨rfl, q1⟩; have HQ := Lib.hid q1; clear q1)
  go_ret
  exact ⟨rfl, (Frm.alloc _ _ _).tr HQ.out⟩

end Go.Proofs.Ytkcimjcmlibgpaa
