/-
  The law's own helpers: all words of a layout's places. Conditions: the cells fit the layout.
-/
import Derived.Test.YtkcimjcmlibgpaaLawA
import Derived.Test.YtkcimjcmlibgpaaOrder
import Derived.Test.YtkcimjcmlibgpaaSnapC
import Derived.Test.YtkcimjcmlibgpaaMemNew
namespace Go.Proofs.Ytkcimjcmlibgpaa
open Go.RowKit

/-- A row of words in memory of its own. -/
def wvals (l : List Int) : List Value := l.map (Value.int .u64)

/-- Behind the first k words. -/
structure WordsInv (w wr : World) (m : MemS) (k : Nat) (o : Value) : Prop where
  oo : wr.ownsRow 0 43 1 o k (wvals (m.cells.take k))
  frm : Frm [] w wr
  no : ∀ b, o.ownBlock = some b → w.heap.size ≤ b

theorem WordsInv.next {w wr W w' : World} {m : MemS} {k : Nat} {o o' : Value} (h : WordsInv w wr m k o) (q : Frm [] wr W) (hk : k < m.cells.length)
    (own : w'.ownsRow 0 43 1 o' (k + 1) (wvals (m.cells.take k) ++ [.int .u64 (m.at k)])) (gr : W.grownBy w' o.ownBlock) (fp : ∀ b, o'.ownBlock = some b → o.ownBlock = some b ∨ W.heap.size ≤ b) : WordsInv w w' m (k + 1) o' := by
  obtain ⟨h1, h2, h3⟩ := h
  refine ⟨?_, grown_frm h2 q gr h3, ?_⟩
  · rw [List.take_succ_eq_append_getElem hk]
    unfold MemS.at at own
    rw [List.getD_eq_getElem?_getD, List.getElem?_eq_getElem hk] at own
    simp only [Option.getD_some] at own
    simp only [wvals, List.map_append, List.map_cons, List.map_nil] at own ⊢
    exact own
  · intro b hb
    have := h2.size
    have := q.size
    rcases fp b hb with h | h
    · exact h3 b h
    · omega

set_option maxHeartbeats 1000000 in
theorem law_words (w : World) (p n : Nat) (F : List Nat) (m : MemS) (ct cs : Nat) (src del : Int) (hm : IsMem w p F m) (hf : Fits ⟨ct, cs, src, del⟩ n m) :
    Calls Try.prog 17 #[.agg #[.int .i64 ct, .int .i64 cs, .int .i64 src, .int .i64 del], .pointer (some ⟨p, 0, none⟩)] w fun e w' =>
      ∃ g cap, e = .returned (.slice (some ⟨g, 0, none⟩) n cap) ∧ w.heap.size ≤ g ∧ w'.ownsRow 0 43 1 (.slice (some ⟨g, 0, none⟩) n cap) n (wvals (m.cells.take n)) ∧ Frm [] w w' := by
  obtain ⟨i1, hi1, hy0, hy1, hy2⟩ := info_parts Try.infoU64
  have h1 := hf.t1
  have h2 := hf.s1
  have h3 := hf.le
  have h4 := hf.pos
  have HN := Lib.hid hf.hn
  have hlen := hf.len
  simp only at h1 h2 hlen
  have HM := Lib.hid (hm.alloc (.cells #[.int .i64 ct, .int .i64 cs, .int .i64 src, .int .i64 del] 27))
  have HB := Lib.hid (blk_new w #[.int .i64 ct, .int .i64 cs, .int .i64 src, .int .i64 del] 27)
  have hbt := blk_lt HB.out
  have HQ0 := Lib.hid (Frm.alloc [] w (.cells #[.int .i64 ct, .int .i64 cs, .int .i64 src, .int .i64 del] 27))
  have hsz : (w.alloc (.cells #[.int .i64 ct, .int .i64 cs, .int .i64 src, .int .i64 del] 27)).heap.size = w.heap.size + 1 := size_al _ _
  clear hm hf
  go_enter Try.func17, Try.ntmps17
  go_wp2_with fail
  go_loopw [5, 6] (fun o i wq => ∃ k : Nat, k ≤ n ∧ i = .int .i64 k ∧ WordsInv (w.alloc (.cells #[.int .i64 ct, .int .i64 cs, .int .i64 src, .int .i64 del] 27)) wq m k o) (fun _ i _ => n - (intOf i).toNat)
  case atStart =>
    refine ⟨0, Nat.zero_le _, rfl, ⟨?_, Frm.alloc _ _ _, ?_⟩⟩
    · have := World.ownsRow_made (e := 43) (size := 1) (base := 0) (w.alloc (.cells #[.int .i64 ct, .int .i64 cs, .int .i64 src, .int .i64 del] 27)) #[] 0 (Nat.zero_le _) (Nat.zero_le _) (by decide)
      rw [hsz] at this
      simpa [wvals] using this
    · intro b hb
      simp only [Value.ownBlock, Option.some.injEq] at hb
      omega
  case round =>
    obtain ⟨k, hk, rfl, hI⟩ := hrel
    have HI := Lib.hid hI
    have HBr := Lib.hid (blk_frm HB.out hI.frm (by simp))
    have HMr := Lib.hid (HM.out.ext hI.frm)
    obtain ⟨hrc, hrf⟩ := blk_S HBr.out
    have hbr := blk_lt HBr.out
    have HNx := Lib.hid (fun (W w' : World) (o' : Value) q hk own gr fp => WordsInv.next (W := W) (w' := w') (o' := o') hI q hk own gr fp)
    have HOO := Lib.hid hI.oo
    clear hI
    by_cases hlt : k < n
    · go_wp2_with (first | (go_at_call 26; refine (lay_all _ ct cs src del h1 h2 n HN.out).mono ?_; rintro e w1 ⟨rfl, q1⟩; have HB1 := Lib.hid (blk_frm HBr.out q1 (by simp)); clear hrc hrf; obtain ⟨hrc, hrf⟩ := blk_S HB1.out; have hb1 := blk_lt HB1.out; have HQ1 := Lib.hid q1; clear q1) | (go_at_call 30; refine (lay_word _ ct cs src del k).mono ?_; rintro e w2 ⟨rfl, q2⟩; have HQ2 := Lib.hid (HQ1.out.tr q2); clear q2) | (go_at_call 24; refine (mem_peek _ p F m k (HMr.out.ext HQ2.out) (by omega)).mono ?_; rintro e _ ⟨rfl, rfl⟩) | (at_builtin; refine wpList_append_fp rfl (.tmp 14) (.tmp 20) 33 rfl 43 i1 _ 1 8 Try.underlying33 hi1 hy0 hy1 hy2 rfl (by decide) _ _ _ rfl ((own_frm HOO.out HQ2.out (by simp)).alloc _) ⟨w2.heap.size, 0, none⟩ 1 1 [.int .u64 (m.at k)] rfl rfl ?d1 ?d2 ?d3 ?d4 ?_))
      case d1 => exact new_cells rfl
      case d2 => intro u hu; simp at hu; subst hu; rfl
      case d3 => unfold maxLen; omega
      case d4 => omega
      intro v' w5 own gr fp
      have HN2 := Lib.hid (HNx.out _ w5 v' (HQ2.out.tr (Frm.alloc _ _ _)) (by omega) own gr (by simpa using fp))
      clear own gr fp
      go_wp2
      go_roundw
      case rel => exact ⟨k + 1, by omega, by go_num, HN2.out⟩
      case measure => simp [intOf]; omega
    · obtain rfl : k = n := by omega
      obtain ⟨g, cap, rfl⟩ := Go.Joins.ownsRow_form HOO.out (by omega)
      go_wp2_with (first | (go_at_call 26; refine (lay_all _ ct cs src del h1 h2 k HN.out).mono ?_; rintro e w1 ⟨rfl, q1⟩; have HQ1 := Lib.hid q1; clear q1))
      go_ret
      refine ⟨g, cap, rfl, ?_, own_frm HOO.out HQ1.out (by simp), (HQ0.out.tr HI.out.frm).tr HQ1.out⟩
      have := HI.out.no g rfl
      omega

end Go.Proofs.Ytkcimjcmlibgpaa
