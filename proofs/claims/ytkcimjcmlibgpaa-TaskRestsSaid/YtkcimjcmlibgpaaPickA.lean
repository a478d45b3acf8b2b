/-
  Package pick: comparing two things: what comes of it, and that new blocks alone are laid. No condition.
-/
import Derived.Test.YtkcimjcmlibgpaaStamp
import Derived.Test.YtkcimjcmlibgpaaWord
import Derived.Sort.Grow
namespace Go.Proofs.Ytkcimjcmlibgpaa
open Go.RowKit Go.Sort

/-- New blocks, and draws: nothing else. -/
def Grw (w w' : World) : Prop := ∃ (q : Nat) (os : Array Obj), w' = grow (w.drewN q) os

theorem Grw.refl (w : World) : Grw w w := ⟨0, #[], by simp [grow]; rfl⟩
theorem Grw.alloc {a w : World} (h : Grw a w) (o : Obj) : Grw a (w.alloc o) := by
  obtain ⟨q, os, rfl⟩ := h
  exact ⟨q, os ++ #[o], by rw [alloc_eq_grow, grow_grow]⟩
theorem Grw.drew {a w : World} (h : Grw a w) : Grw a w.drew := by
  obtain ⟨q, os, rfl⟩ := h
  exact ⟨q + 1, os, rfl⟩
theorem Grw.trans {a b c : World} (h : Grw a b) (k : Grw b c) : Grw a c := by
  obtain ⟨q, os, rfl⟩ := h
  obtain ⟨q2, os2, rfl⟩ := k
  refine ⟨q + q2, os ++ os2, ?_⟩
  simp only [grow, World.drewN, Array.append_assoc, Nat.add_assoc]
theorem Grw.frm {w w' : World} (h : Grw w w') : Frm [] w w' := by
  obtain ⟨q, os, rfl⟩ := h
  exact ⟨rfl, rfl, rfl, by simp [grow, World.drewN], fun k hk _ => by simp only [grow, World.drewN]; rw [Array.getElem?_append_left hk]⟩

set_option maxHeartbeats 400000 in
theorem stamp_compare_g (w : World) (a b c d : Int) :
    Calls Try.prog 98 #[.agg #[.int .i64 a, .int .i64 b], .agg #[.int .i64 c, .int .i64 d]] w fun e w' => e = .returned (.int .i64 (cmpSt a b c d)) ∧ Grw w w' := by
  have hb0 : Blk ((w.alloc (.cells #[.int .i64 a, .int .i64 b] 57)).alloc (.cells #[.int .i64 c, .int .i64 d] 57)) w.heap.size #[.int .i64 a, .int .i64 b] 57 := blk_alloc (blk_new _ _ _) _
  have hb1 : Blk ((w.alloc (.cells #[.int .i64 a, .int .i64 b] 57)).alloc (.cells #[.int .i64 c, .int .i64 d] 57)) (w.heap.size + 1) #[.int .i64 c, .int .i64 d] 57 := by
    have := blk_new (w.alloc (.cells #[.int .i64 a, .int .i64 b] 57)) #[.int .i64 c, .int .i64 d] 57
    rw [size_al] at this; exact this
  have H0 := Lib.hid hb0
  have H1 := Lib.hid hb1
  clear hb0 hb1
  go_enter Try.func98, Try.ntmps98
  go_wp2_with fail
  go_region_held3 (fun w' => (∀ o, w'.cell? ⟨w.heap.size, o, none⟩ = (#[.int .i64 a, .int .i64 b] : Array Value)[o]?) ∧ (∀ o, w'.cell? ⟨w.heap.size + 1, o, none⟩ = (#[.int .i64 c, .int .i64 d] : Array Value)[o]?))
    (first | exact ⟨fun o => blk_cell (blk_drew H0.out) o, fun o => blk_cell (blk_drew H1.out) o⟩ | exact ⟨fun o => blk_cell (blk_drew (blk_alloc H0.out _)) o, fun o => blk_cell (blk_drew (blk_alloc H1.out _)) o⟩ | assumption)
    (first | (go_at_call 99; refine (cmp_compare _ _ _).mono ?_; rintro e w' ⟨rfl, rfl⟩) | (go_at_call 97; refine (cmp_or _ _ _ (cmpI a c) (cmpI b d) ?_ ?_).mono ?_; (go_simp); (go_simp); rintro e w' ⟨rfl, rfl⟩))
  go_wp2
  go_ret
  exact ⟨rfl, ((((Grw.refl _).alloc _).alloc _).alloc _).drew⟩

/-- A thing: a place, and its word. -/
structure Th where
  slot : Nat
  w : Wd
  deriving DecidableEq

instance : Inhabited Th := ⟨⟨0, ⟨0, 0, 0, 0, 0⟩⟩⟩

def Th.enc (x : Th) : List Value := [.int .i64 x.slot, .int .i64 x.w.st, .int .i64 x.w.en, .int .i64 x.w.gen, .int .i64 x.w.lo, .int .i64 x.w.hi]
def cmpTh (x y : Th) : Int := orI (cmpSt x.w.lo x.w.hi y.w.lo y.w.hi) (cmpI x.slot y.slot)

set_option maxHeartbeats 800000 in
theorem pick_compare (w : World) (s1 a1 a2 a3 a4 a5 s2 b1 b2 b3 b4 b5 : Int) :
    Calls Try.prog 94 #[.agg #[.int .i64 s1, .int .i64 a1, .int .i64 a2, .int .i64 a3, .int .i64 a4, .int .i64 a5], .agg #[.int .i64 s2, .int .i64 b1, .int .i64 b2, .int .i64 b3, .int .i64 b4, .int .i64 b5]] w
      fun e w' => e = .returned (.int .i64 (orI (cmpSt a4 a5 b4 b5) (cmpI s1 s2))) ∧ Grw w w' := by
  have hb0 : Blk ((w.alloc (.cells #[.int .i64 s1, .int .i64 a1, .int .i64 a2, .int .i64 a3, .int .i64 a4, .int .i64 a5] 142)).alloc (.cells #[.int .i64 s2, .int .i64 b1, .int .i64 b2, .int .i64 b3, .int .i64 b4, .int .i64 b5] 142)) w.heap.size #[.int .i64 s1, .int .i64 a1, .int .i64 a2, .int .i64 a3, .int .i64 a4, .int .i64 a5] 142 := blk_alloc (blk_new _ _ _) _
  have hb1 : Blk ((w.alloc (.cells #[.int .i64 s1, .int .i64 a1, .int .i64 a2, .int .i64 a3, .int .i64 a4, .int .i64 a5] 142)).alloc (.cells #[.int .i64 s2, .int .i64 b1, .int .i64 b2, .int .i64 b3, .int .i64 b4, .int .i64 b5] 142)) (w.heap.size + 1) #[.int .i64 s2, .int .i64 b1, .int .i64 b2, .int .i64 b3, .int .i64 b4, .int .i64 b5] 142 := by
    have := blk_new (w.alloc (.cells #[.int .i64 s1, .int .i64 a1, .int .i64 a2, .int .i64 a3, .int .i64 a4, .int .i64 a5] 142)) #[.int .i64 s2, .int .i64 b1, .int .i64 b2, .int .i64 b3, .int .i64 b4, .int .i64 b5] 142
    rw [size_al] at this; exact this
  have H0 := Lib.hid hb0
  have H1 := Lib.hid hb1
  clear hb0 hb1
  go_enter Try.func94, Try.ntmps94
  go_wp2_with fail
  go_region_held3 (fun w' => (∀ o, w'.cell? ⟨w.heap.size, o, none⟩ = (#[.int .i64 s1, .int .i64 a1, .int .i64 a2, .int .i64 a3, .int .i64 a4, .int .i64 a5] : Array Value)[o]?) ∧ (∀ o, w'.cell? ⟨w.heap.size + 1, o, none⟩ = (#[.int .i64 s2, .int .i64 b1, .int .i64 b2, .int .i64 b3, .int .i64 b4, .int .i64 b5] : Array Value)[o]?))
    (first | exact ⟨fun o => blk_cell (blk_drew H0.out) o, fun o => blk_cell (blk_drew H1.out) o⟩ | exact ⟨fun o => blk_cell B0 o, fun o => blk_cell B1 o⟩ | exact ⟨fun o => blk_cell (blk_alloc B0 _) o, fun o => blk_cell (blk_alloc B1 _) o⟩ | assumption)
    (first | (go_at_call 98; refine (stamp_compare_g _ a4 a5 b4 b5).mono ?_; rintro e w1 ⟨rfl, g1⟩; have B0 := blk_frm (blk_drew H0.out) g1.frm (by simp); have B1 := blk_frm (blk_drew H1.out) g1.frm (by simp)) | (go_at_call 99; refine (cmp_compare _ _ _).mono ?_; rintro e w2 ⟨rfl, rfl⟩) | (go_at_call 97; refine (cmp_or _ _ _ (cmpSt a4 a5 b4 b5) (cmpI s1 s2) ?_ ?_).mono ?_; (go_simp); (go_simp); rintro e w3 ⟨rfl, rfl⟩))
  have HG := Lib.hid g1
  clear g1 B0 B1
  go_wp2
  go_ret
  exact ⟨rfl, ((((((Grw.refl _).alloc _).alloc _).drew)).trans HG.out).alloc _⟩

theorem pick_desc (w : World) (s1 a1 a2 a3 a4 a5 s2 b1 b2 b3 b4 b5 : Int) :
    Calls Try.prog 93 #[.agg #[.int .i64 s1, .int .i64 a1, .int .i64 a2, .int .i64 a3, .int .i64 a4, .int .i64 a5], .agg #[.int .i64 s2, .int .i64 b1, .int .i64 b2, .int .i64 b3, .int .i64 b4, .int .i64 b5]] w
      fun e w' => e = .returned (.int .i64 (orI (cmpSt b4 b5 a4 a5) (cmpI s2 s1))) ∧ Grw w w' := by
  go_enter Try.func93, Try.ntmps93
  go_wp2_with (go_at_call 94; refine (pick_compare _ s2 b1 b2 b3 b4 b5 s1 a1 a2 a3 a4 a5).mono ?_; rintro e w1 ⟨rfl, g1⟩; have HG := Lib.hid g1; clear g1)
  go_ret
  exact ⟨rfl, ((((Grw.refl _).alloc _).alloc _)).trans HG.out⟩

end Go.Proofs.Ytkcimjcmlibgpaa
