/-
  stackyardlaw11.Cells: cells of a layout, with things in the places. Conditions: the layout is small and right; the things lie in a row.
-/
import Derived.Test.YtkcimjcmlibgpaaLawD
import Derived.Test.YtkcimjcmlibgpaaGetD
import Derived.Deep.Slices
namespace Go.Proofs.Ytkcimjcmlibgpaa
open Go.RowKit

def Thg.zero : Thg := ⟨0, 0, 0, 0, false, 0⟩
/-- A list of things, as a slice that can be read. -/
def LstT (w : World) (v : Value) (l : List Thg) : Prop :=
  (v = .slice none 0 0 ∧ l = []) ∨ ∃ (a : Addr) (cap : Nat), v = .slice (some a) l.length cap ∧ (0 < l.length → a.block < w.heap.size) ∧ ∀ i, i < l.length → ∀ j, j < 6 → w.cell? ((a.add (i * 6)).add j) = (l.getD i Thg.zero).vals[j]?

/-- The things that were put into the first k places. -/
def cellsK (n : Nat) (l : List Thg) (m : MemS) : Nat → MemS
  | 0 => m
  | k + 1 => ((cellsK n l m k).put (-1) 1 k (l.getD k Thg.zero).word.pack true).put (-1) 1 (n + k) (l.getD k Thg.zero).value true

theorem cellsK_len (n : Nat) (l : List Thg) (m : MemS) (k : Nat) : (cellsK n l m k).cells.length = m.cells.length ∧ (cellsK n l m k).log.length = m.log.length + 2 * k := by
  induction k with
  | zero => exact ⟨rfl, rfl⟩
  | succ k ih => simp only [cellsK, MemS.put, List.length_set, List.length_append, List.length_cons, List.length_nil]; omega

theorem blk_add (a : Addr) (n : Nat) : (a.add n).block = a.block := by unfold Addr.add; split <;> rfl

/-- One thing's cells. -/
structure ThgAt (w : World) (A : Addr) (t : Thg) : Prop where
  c0 : w.cell? A = some (.int .i64 t.state)
  c1 : w.cell? ⟨A.block, A.off + 1, none⟩ = some (.int .i64 t.gen)
  c2 : w.cell? ⟨A.block, A.off + 2, none⟩ = some (.int .i64 t.pos)
  c3 : w.cell? ⟨A.block, A.off + 3, none⟩ = some (.int .i64 t.wide)
  c4 : w.cell? ⟨A.block, A.off + 4, none⟩ = some (.bool t.right)
  c5 : w.cell? ⟨A.block, A.off + 5, none⟩ = some (.int .u64 t.value)

theorem ThgAt.of {w : World} {A : Addr} {t : Thg} (h : ∀ j, j < 6 → w.cell? (A.add j) = t.vals[j]?) : ThgAt w A t :=
  ⟨h 0 (by omega), h 1 (by omega), h 2 (by omega), h 3 (by omega), h 4 (by omega), h 5 (by omega)⟩
theorem ThgAt.ext {w w' : World} {A : Addr} {t : Thg} (h : ThgAt w A t) (hb : A.block < w.heap.size) (q : Frm [] w w') : ThgAt w' A t :=
  ⟨by rw [← h.c0]; exact World.cell?_of_block (q.block _ hb (by simp)), by rw [← h.c1]; exact World.cell?_of_block (q.block _ hb (by simp)), by rw [← h.c2]; exact World.cell?_of_block (q.block _ hb (by simp)), by rw [← h.c3]; exact World.cell?_of_block (q.block _ hb (by simp)), by rw [← h.c4]; exact World.cell?_of_block (q.block _ hb (by simp)), by rw [← h.c5]; exact World.cell?_of_block (q.block _ hb (by simp))⟩
theorem ThgAt.S {w : World} {A : Addr} {t1 t2 t3 t4 : Int} {t5 : Bool} {t6 : Int} (h : ThgAt w A ⟨t1, t2, t3, t4, t5, t6⟩) : w.cell? A = some (.int .i64 t1) ∧ w.cell? ⟨A.block, A.off + 1, none⟩ = some (.int .i64 t2) ∧ w.cell? ⟨A.block, A.off + 2, none⟩ = some (.int .i64 t3) ∧ w.cell? ⟨A.block, A.off + 3, none⟩ = some (.int .i64 t4) ∧ w.cell? ⟨A.block, A.off + 4, none⟩ = some (.bool t5) ∧ w.cell? ⟨A.block, A.off + 5, none⟩ = some (.int .u64 t6) :=
  ⟨h.c0, h.c1, h.c2, h.c3, h.c4, h.c5⟩

def mem0 (n t : Nat) : MemS := ⟨List.replicate (2 * n + 2 * t) 0, []⟩
/-- Cells of a layout, with things in the places. -/
def cellsT (n t : Nat) (l : List Thg) : MemS := cellsK n l (mem0 n t) (min n l.length)

set_option maxRecDepth 100000 in
set_option maxHeartbeats 2000000 in
theorem law_cells (w : World) (n ct cs : Nat) (src del : Int) (lv : Value) (l : List Thg) (hl : LstT w lv l) (hu : ∀ x ∈ l, U64 x.value) (hn : n = ct * cs) (ht0 : 1 ≤ ct) (ht : ct ≤ 64) (hs0 : 1 ≤ cs) (hs : cs ≤ 64) :
    Calls Try.prog 15 #[.agg #[.int .i64 ct, .int .i64 cs, .int .i64 src, .int .i64 del], lv] w fun e w' =>
      ∃ p F, e = .returned (.pointer (some ⟨p, 0, none⟩)) ∧ IsMem w' p F (cellsT n ct l) ∧ (∀ k ∈ F, w.heap.size ≤ k) ∧ Frm [] w w' := by
  have hle := mul_le ct cs ht hs
  rw [← hn] at hle
  have hpos : 1 ≤ n := by rw [hn]; exact Nat.mul_le_mul ht0 hs0
  have HN := Lib.hid hn
  have HL := Lib.hid hl
  have HU := Lib.hid hu
  clear hl hu hn
  have HB := Lib.hid (blk_new w #[.int .i64 ct, .int .i64 cs, .int .i64 src, .int .i64 del] 27)
  have hbt := blk_lt HB.out
  have HQ0 := Lib.hid (Frm.alloc [] w (.cells #[.int .i64 ct, .int .i64 cs, .int .i64 src, .int .i64 del] 27))
  have hsz : (w.alloc (.cells #[.int .i64 ct, .int .i64 cs, .int .i64 src, .int .i64 del] 27)).heap.size = w.heap.size + 1 := size_al _ _
  go_enter Try.func15, Try.ntmps15
  go_wp2_with (first | (go_at_call 46; refine (lay_cells _ ct cs src del ht hs n HN.out).mono ?_; rintro e w1 ⟨rfl, q1⟩; have HQ1 := Lib.hid q1; clear q1) | (go_at_call 45; refine (mem_new _ (2 * n + 2 * ct) (by omega) (by omega)).mono ?_; rintro e w2 ⟨p, F, rfl, M2, hF, q2⟩; have HM2 := Lib.hid M2; have HF := Lib.hid hF; have HQ2 := Lib.hid q2; clear M2 hF q2))
  obtain ⟨W0, hW0⟩ : ∃ W0, w.alloc (.cells #[.int .i64 ct, .int .i64 cs, .int .i64 src, .int .i64 del] 27) = W0 := ⟨_, rfl⟩
  rw [hW0] at HB hbt HQ0 hsz HQ1
  clear hW0
  go_loopw [6] (fun i wq => ∃ k : Nat, k ≤ min n l.length ∧ i = .int .i64 k ∧ ∃ Fk, IsMem wq p Fk (cellsK n l (mem0 n ct) k) ∧ Frm [] W0 wq ∧ (∀ x ∈ Fk, W0.heap.size ≤ x)) (fun i _ => min n l.length - (intOf i).toNat)
  case atStart => exact ⟨0, Nat.zero_le _, rfl, F, HM2.out, HQ1.out.tr HQ2.out, fun x hx => Nat.le_trans HQ1.out.size (HF.out x hx)⟩
  case round =>
    obtain ⟨k, hk, rfl, Fk, M3, q3, f3⟩ := hrel
    have HM3 := Lib.hid M3
    have HQ3 := Lib.hid q3
    have HF3 := Lib.hid f3
    have HB3 := Lib.hid (blk_frm HB.out q3 (by simp))
    obtain ⟨hrc, hrf⟩ := blk_S HB3.out
    have hb3 := blk_lt HB3.out
    obtain ⟨ao, cap, hlv, hcl⟩ : ∃ ao cap, lv = .slice ao l.length cap ∧ (k < l.length → ∃ a, ao = some a ∧ a.block < w.heap.size ∧ ∀ j, j < 6 → w.cell? ((a.add (k * 6)).add j) = (l.getD k Thg.zero).vals[j]?) := by
      rcases HL.out with ⟨rfl, rfl⟩ | ⟨a, cap, rfl, hab, hc⟩
      · exact ⟨_, _, rfl, fun h => by simp at h⟩
      · exact ⟨_, _, rfl, fun h => ⟨a, rfl, hab (by omega), hc k h⟩⟩
    subst hlv
    clear M3 q3 f3
    by_cases hkn : k < n
    · by_cases hkl : k < l.length
      · obtain ⟨a, rfl, hab, hc⟩ := hcl hkl
        have hut := HU.out (l.getD k Thg.zero) (by rw [List.getD_eq_getElem?_getD, List.getElem?_eq_getElem hkl]; exact List.getElem_mem _)
        go_wp2_with (first | (go_at_call 26; refine (lay_all _ ct cs src del ht hs n HN.out).mono ?_; rintro e w4 ⟨rfl, q4⟩; have HB4 := Lib.hid (blk_frm HB3.out q4 (by simp)); clear hrc hrf; obtain ⟨hrc, hrf⟩ := blk_S HB4.out; have hb4 := blk_lt HB4.out; have HQ4 := Lib.hid (HQ3.out.tr q4); have HM4 := Lib.hid (HM3.out.ext q4); clear q4))
        have hc4 : ∀ w', Frm [] w w' → ThgAt w' (a.add (k * 6)) (l.getD k Thg.zero) := fun w' q => (ThgAt.of hc).ext (by rw [blk_add]; exact hab) q
        have HC4 := Lib.hid hc4
        have hk0 : (0 : Int) ≤ (k : Int) := Int.natCast_nonneg k
        have hkI : (k : Int) < (l.length : Int) := by omega
        have hlen := (cellsK_len n l (mem0 n ct) k)
        have hcl0 : (mem0 n ct).cells.length = 2 * n + 2 * ct := by simp [mem0]
        have hlg0 : (mem0 n ct).log.length = 0 := rfl
        have HUT := Lib.hid hut
        have HP := Lib.hid (pack_u64 _ (Thg.word_ok (l.getD k Thg.zero)))
        have HW := Lib.hid (fun w' => law_word w' (l.getD k Thg.zero))
        have HPK := Lib.hid (fun w' => word_pack w' _ (Thg.word_ok (l.getD k Thg.zero)))
        have HST := Lib.hid (fun w' q => mem_store w' p Fk _ (-1) ((l.getD k Thg.zero).word.pack) k (HM4.out.ext q) (by omega) (by omega) HP.out)
        have hF0 : ∀ x, x < W0.heap.size → x ∉ Fk := fun x hx hm => by have := HF3.out x hm; omega
        clear hc hc4 hut
        obtain ⟨T, hT⟩ : ∃ T, l.getD k Thg.zero = T := ⟨_, rfl⟩
        rw [hT] at HC4 HUT HP HW HPK HST
        obtain ⟨t1, t2, t3, t4, t5, t6⟩ := T
        have HTT := Lib.hid hT
        clear hT
        simp only at HW HST
        go_region_held3 (fun w' => (∀ o, w'.cell? ⟨w.heap.size, o, none⟩ = (#[.int .i64 ct, .int .i64 cs, .int .i64 src, .int .i64 del] : Array Value)[o]?) ∧ (w'.cell? (a.add (k * 6)) = some (.int .i64 t1) ∧ w'.cell? ⟨(a.add (k * 6)).block, (a.add (k * 6)).off + 1, none⟩ = some (.int .i64 t2) ∧ w'.cell? ⟨(a.add (k * 6)).block, (a.add (k * 6)).off + 2, none⟩ = some (.int .i64 t3) ∧ w'.cell? ⟨(a.add (k * 6)).block, (a.add (k * 6)).off + 3, none⟩ = some (.int .i64 t4) ∧ w'.cell? ⟨(a.add (k * 6)).block, (a.add (k * 6)).off + 4, none⟩ = some (.bool t5) ∧ w'.cell? ⟨(a.add (k * 6)).block, (a.add (k * 6)).off + 5, none⟩ = some (.int .u64 t6)))
          (first | exact ⟨fun o => blk_cell (blk_drew HB4.out) o, (HC4.out _ (HQ0.out.tr (HQ4.out.tr (Frm.drew _ _)))).S⟩ | exact ⟨fun o => blk_cell (blk_frm HB.out p5 (by simp)) o, (HC4.out _ (HQ0.out.tr p5)).S⟩ | exact ⟨fun o => blk_cell (blk_frm HB.out p6 (by simp)) o, (HC4.out _ (HQ0.out.tr p6)).S⟩ | exact ⟨fun o => blk_cell (blk_frm HB.out p7 (by simp)) o, (HC4.out _ (HQ0.out.tr p7)).S⟩ | exact ⟨fun o => blk_cell (blk_frm HB.out p8 (by simp)) o, (HC4.out _ (HQ0.out.tr p8)).S⟩)
          (first | (go_at_call 30; refine (lay_word _ ct cs src del k).mono ?_; rintro e w5 ⟨rfl, q5'⟩; have q5 := (Frm.drew [] w4).tr q5'; have p5 := HQ4.out.tr q5) | (go_at_call 37; refine (HW.out _).mono ?_; rintro e w6 ⟨rfl, q6'⟩; have q6 := q5.tr q6'; have p6 := HQ4.out.tr q6) | (go_at_call 33; refine (HPK.out _).mono ?_; rintro e w7 ⟨rfl, q7'⟩; have q7 := q6.tr q7'; have p7 := HQ4.out.tr q7) | (go_at_call 31; refine (HST.out _ q7).mono ?_; rintro e w8 ⟨rfl, F8, M8, u8⟩; have p8 : Frm [] W0 w8 := p7.trans u8.toFrm (fun _ _ h => h) (fun x hx _ => hF0 x hx)))
        have HP8 := Lib.hid p8
        have HM8 := Lib.hid M8
        have hF8 : ∀ x ∈ F8, W0.heap.size ≤ x := fun x hx => by
          rcases u8.grows x hx with h | h
          · exact HF3.out x h
          · exact Nat.le_trans p7.size h
        have HF8 := Lib.hid hF8
        have HB8 := Lib.hid (blk_frm HB.out p8 (by simp))
        have hlen8 := (put_cells_len (cellsK n l (mem0 n ct) k) (-1) 1 k (Thg.word ⟨t1, t2, t3, t4, t5, t6⟩).pack true)
        have hlog8 := put_log (cellsK n l (mem0 n ct) k) (-1) 1 k (Thg.word ⟨t1, t2, t3, t4, t5, t6⟩).pack true
        have HST2 := Lib.hid (fun w' q => mem_store w' p F8 _ (-1) t6 (n + k) (HM8.out.ext q) (by omega) (by omega) HUT.out)
        have hF80 : ∀ x, x < W0.heap.size → x ∉ F8 := fun x hx hm => by have := hF8 x hm; omega
        have hK : cellsK n l (mem0 n ct) (k + 1) = ((cellsK n l (mem0 n ct) k).put (-1) 1 k (Thg.word ⟨t1, t2, t3, t4, t5, t6⟩).pack true).put (-1) 1 (n + k) t6 true := by
          show ((cellsK n l (mem0 n ct) k).put (-1) 1 k (l.getD k Thg.zero).word.pack true).put (-1) 1 (n + k) (l.getD k Thg.zero).value true = _
          rw [HTT.out]
        have HK := Lib.hid hK
        clear hrc hrf
        obtain ⟨hrc, hrf⟩ := blk_S HB8.out
        have hb8 := blk_lt HB8.out
        clear q5 q6 q7 q5' q6' q7' p5 p6 p7 p8 M8 u8 hF8 hK HST HPK HW
        go_wp2_with fail
        go_region_held3 (fun w' => (∀ o, w'.cell? ⟨w.heap.size, o, none⟩ = (#[.int .i64 ct, .int .i64 cs, .int .i64 src, .int .i64 del] : Array Value)[o]?) ∧ (w'.cell? (a.add (k * 6)) = some (.int .i64 t1) ∧ w'.cell? ⟨(a.add (k * 6)).block, (a.add (k * 6)).off + 1, none⟩ = some (.int .i64 t2) ∧ w'.cell? ⟨(a.add (k * 6)).block, (a.add (k * 6)).off + 2, none⟩ = some (.int .i64 t3) ∧ w'.cell? ⟨(a.add (k * 6)).block, (a.add (k * 6)).off + 3, none⟩ = some (.int .i64 t4) ∧ w'.cell? ⟨(a.add (k * 6)).block, (a.add (k * 6)).off + 4, none⟩ = some (.bool t5) ∧ w'.cell? ⟨(a.add (k * 6)).block, (a.add (k * 6)).off + 5, none⟩ = some (.int .u64 t6)))
          (first | exact ⟨fun o => blk_cell (blk_drew HB8.out) o, (HC4.out _ (HQ0.out.tr (HP8.out.tr (Frm.drew _ _)))).S⟩ | exact ⟨fun o => blk_cell (blk_frm HB.out p9 (by simp)) o, (HC4.out _ (HQ0.out.tr p9)).S⟩ | exact ⟨fun o => blk_cell (blk_frm HB.out p10 (by simp)) o, (HC4.out _ (HQ0.out.tr p10)).S⟩)
          (first | (go_at_call 25; refine (lay_value _ ct cs src del ht hs k (by omega) n HN.out).mono ?_; rintro e w9 ⟨rfl, q9'⟩; have q9 := (Frm.drew [] w8).tr q9'; have p9 := HP8.out.tr q9) | (go_at_call 31; refine (HST2.out _ q9).mono ?_; rintro e w10 ⟨rfl, F10, M10, u10⟩; have p10 : Frm [] W0 w10 := p9.trans u10.toFrm (fun _ _ h => h) (fun x hx _ => hF80 x hx)))
        have HI : Hid (IsMem w10 p F10 (cellsK n l (mem0 n ct) (k + 1)) ∧ Frm [] W0 w10 ∧ (∀ x ∈ F10, W0.heap.size ≤ x)) := ⟨by rw [HK.out]; exact M10, p10, fun x hx => by
          rcases u10.grows x hx with h | h
          · exact HF8.out x h
          · exact Nat.le_trans p9.size h⟩
        clear q9 q9' p9 p10 M10 u10
        go_wp2
        go_roundw
        case rel => exact ⟨k + 1, by omega, by go_num, F10, HI.out⟩
        case measure => simp [intOf]; omega
      · go_wp2_with (first | (go_at_call 26; refine (lay_all _ ct cs src del ht hs n HN.out).mono ?_; rintro e w4 ⟨rfl, q4⟩))
        go_ret
        have e : k = min n l.length := by omega
        refine ⟨p, Fk, rfl, ?_, fun x hx => ?_, (HQ0.out.tr HQ3.out).tr q4⟩
        · unfold cellsT; rw [← e]; exact HM3.out.ext q4
        · have := HF3.out x hx; omega
    · go_wp2_with (first | (go_at_call 26; refine (lay_all _ ct cs src del ht hs n HN.out).mono ?_; rintro e w4 ⟨rfl, q4⟩))
      go_ret
      have e : k = min n l.length := by omega
      refine ⟨p, Fk, rfl, ?_, fun x hx => ?_, (HQ0.out.tr HQ3.out).tr q4⟩
      · unfold cellsT; rw [← e]; exact HM3.out.ext q4
      · have := HF3.out x hx; omega

end Go.Proofs.Ytkcimjcmlibgpaa
