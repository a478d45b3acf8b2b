/-
  Package get: what a Get is in memory, and what it does behind all words were read. Conditions: the Snap is at its end; its words are words.
-/
import Derived.Test.YtkcimjcmlibgpaaAt
import Derived.Test.YtkcimjcmlibgpaaSnapC
import Derived.Test.YtkcimjcmlibgpaaTakeC
namespace Go.Proofs.Ytkcimjcmlibgpaa
open Go.RowKit

structure GetS where
  cf : Cf
  who : Nat
  en : Int
  start : Int
  snap : SnapS
  take : Option TakeS
  tries : Nat
  value : Int
  phase : Int

def GetS.row (g : GetS) (sp tp : Value) : Array Value := #[.int .i64 g.cf.t, .int .i64 g.cf.s, .int .i64 g.cf.src, .int .i64 g.cf.del, .int .i64 g.who, .int .i64 g.en, .int .i64 g.start, sp, tp, .int .i64 g.tries, .int .u64 g.value, .int .i64 g.phase]

/-- A Get in memory: its struct, and its Snap or its Take. -/
structure IsGet (w : World) (gb : Nat) (G : List Nat) (g : GetS) : Prop where
  ex : (∃ sb wb, g.take = none ∧ G = [gb, sb, wb] ∧ Blk w gb (g.row (.pointer (some ⟨sb, 0, none⟩)) (.pointer none)) 103 ∧ IsSnap w sb wb g.snap ∧ gb ≠ sb ∧ gb ≠ wb) ∨
    (∃ t tb sp, g.take = some t ∧ G = [gb, tb] ∧ Blk w gb (g.row sp (.pointer (some ⟨tb, 0, none⟩))) 103 ∧ Blk w tb t.row 113 ∧ gb ≠ tb)

theorem IsGet.lt {w : World} {gb : Nat} {G : List Nat} {g : GetS} (h : IsGet w gb G g) : ∀ k ∈ G, k < w.heap.size := by
  rcases h.ex with ⟨sb, wb, _, rfl, h1, h2, _⟩ | ⟨t, tb, sp, _, rfl, h1, h2, _⟩
  · intro k hk
    simp only [List.mem_cons, List.not_mem_nil, or_false] at hk
    rcases hk with rfl | rfl | rfl
    · exact blk_lt h1
    · exact blk_lt h2.row
    · exact blk_lt h2.words
  · intro k hk
    simp only [List.mem_cons, List.not_mem_nil, or_false] at hk
    rcases hk with rfl | rfl
    · exact blk_lt h1
    · exact blk_lt h2

theorem IsSnap.frm {w w' : World} {sb wb : Nat} {s : SnapS} (h : IsSnap w sb wb s) {F : List Nat} (k : Frm F w w') (h1 : sb ∉ F) (h2 : wb ∉ F) : IsSnap w' sb wb s :=
  ⟨blk_frm h.row k h1, blk_frm h.words k h2, h.ne⟩
theorem IsSnap.set {w : World} {sb wb : Nat} {s : SnapS} (h : IsSnap w sb wb s) {t o : Nat} (h1 : sb ≠ t) (h2 : wb ≠ t) (v : Value) : IsSnap (w.setCell ⟨t, o, none⟩ v) sb wb s :=
  ⟨blk_other h.row h1 v, blk_other h.words h2 v, h.ne⟩

theorem IsGet.frm {w w' : World} {gb : Nat} {G F : List Nat} {g : GetS} (h : IsGet w gb G g) (k : Frm F w w') (hd : ∀ x ∈ G, x ∉ F) : IsGet w' gb G g := by
  rcases h.ex with ⟨sb, wb, e, rfl, h1, h2, h3⟩ | ⟨t, tb, sp, e, rfl, h1, h2, h3⟩
  · exact ⟨.inl ⟨sb, wb, e, rfl, blk_frm h1 k (hd _ (by simp)), h2.frm k (hd _ (by simp)) (hd _ (by simp)), h3⟩⟩
  · exact ⟨.inr ⟨t, tb, sp, e, rfl, blk_frm h1 k (hd _ (by simp)), blk_frm h2 k (hd _ (by simp)), h3⟩⟩

def snap0 (cf : Cf) (who n : Nat) (start : Int) : SnapS := ⟨cf, who, startOf start n, 0, 0, false, List.replicate n 0, 0⟩
def get0 (cf : Cf) (who n : Nat) (en start : Int) : GetS := ⟨cf, who, en, start, snap0 cf who n start, none, 0, 0, 0⟩
def take0 (cf : Cf) (who slot : Nat) (word : Int) : TakeS := ⟨cf, who, slot, word, 0, false, 0, 0⟩

/-- It goes on behind all words were read. -/
def GetS.chosen (g : GetS) : GetS :=
  if atR (rowW g.snap.words) g.en < 0 then { g with phase := 2 }
  else { g with take := some (take0 g.cf g.who (atR (rowW g.snap.words) g.en).toNat (g.snap.words.getD (atR (rowW g.snap.words) g.en).toNat 0)) }

theorem rowW_lt (words : List Int) : ∀ i ∈ rowW words, i < words.length := by
  intro i hi
  unfold rowW at hi
  obtain ⟨x, hx, rfl⟩ := List.mem_map.1 hi
  have := (sortT_perm _).mem_iff.1 hx
  unfold things at this
  obtain ⟨k, hk, rfl⟩ := List.mem_map.1 (List.mem_filter.1 this).1
  exact List.mem_range.1 hk

theorem atR_mem (row : List Nat) (en : Int) : atR row en = -1 ∧ row = [] ∨ ∃ z : Nat, atR row en = (z : Int) ∧ z ∈ row := by
  cases row with
  | nil => exact .inl ⟨rfl, rfl⟩
  | cons a l =>
    refine .inr ?_
    by_cases h : en = 0
    · exact ⟨a, if_pos h, by simp⟩
    · exact ⟨(a :: l).getLast (by simp), if_neg h, List.getLast_mem _⟩

theorem wrow_cell {w : World} {b : Nat} {words : List Int} {t : TypeId} (h : Blk w b (wrow words) t) {z : Nat} (hz : z < words.length) : w.cell? ⟨b, z, none⟩ = some (.int .u64 (words.getD z 0)) :=
  (blk_cell h z).trans (wrow_get words z hz)

set_option maxHeartbeats 1000000 in
theorem get_chosen_full (w : World) (gb sb wb n : Nat) (ct cs who : Nat) (src del en start : Int) (s : SnapS) (tries : Nat) (value : Int) (hS : IsSnap w sb wb s) (hwl : s.words.length = n) (hn : n ≤ 4096) (hph : s.phase = 1) (hu : ∀ x ∈ s.words, U64 x) (hen : en = 0 ∨ en = 1)
    (hR : atR (rowW s.words) en = -1)
    (hb : Blk w gb #[.int .i64 ct, .int .i64 cs, .int .i64 src, .int .i64 del, .int .i64 who, .int .i64 en, .int .i64 start, .pointer (some ⟨sb, 0, none⟩), .pointer none, .int .i64 tries, .int .u64 value, .int .i64 0] 103) :
    Calls Try.prog 59 #[.pointer (some ⟨gb, 0, none⟩)] w fun e w' => e = .returned (.tuple #[]) ∧
      Blk w' gb #[.int .i64 ct, .int .i64 cs, .int .i64 src, .int .i64 del, .int .i64 who, .int .i64 en, .int .i64 start, .pointer (some ⟨sb, 0, none⟩), .pointer none, .int .i64 tries, .int .u64 value, .int .i64 2] 103 ∧ Frm [gb] w w' := by
  have HC := Lib.hid (snap_words w sb wb n s hS hwl hn hph)
  have HB := Lib.hid hb
  have HR := Lib.hid hR
  have HU := Lib.hid hu
  have HWL := Lib.hid hwl
  have hbt := blk_lt hb
  obtain ⟨hrc, hrf⟩ := blk_S hb
  clear hS hwl hph hu hR hb
  generalize s.words = words at *
  go_enter Try.func59, Try.ntmps59
  go_wp2_with (first | (go_at_call 39; refine HC.out.mono ?_; rintro e w1 ⟨ob, rfl, hob, o1, q1⟩; have B1 := blk_frm HB.out q1 (by simp); clear hrc hrf; obtain ⟨hrc, hrf⟩ := blk_S B1; have hbt1 := blk_lt B1; have O1 := Lib.hid o1; have Q1 := Lib.hid q1; have HB1 := Lib.hid B1; clear o1 q1 B1) | (go_at_call 79; refine (pick_at _ ob n words en hen O1.out HWL.out hn HU.out).mono ?_; rw [HR.out]; rintro e w2 ⟨rfl, q2⟩; have B2 := blk_frm HB1.out q2 (by simp); clear hrc hrf; obtain ⟨hrc, hrf⟩ := blk_S B2; have hbt2 := blk_lt B2; have Q2 := Lib.hid q2; have HB2 := Lib.hid B2; clear q2 B2))
  refine bodyPost_ret (results_none rfl _ _ _) rfl ⟨rfl, ?_, ?_⟩
  · simpa using blk_set HB2.out 11 _
  · exact ((Q1.out.tr Q2.out).mono (by simp)).tr (Frm.setCell _ _ (by simp))

set_option maxHeartbeats 1000000 in
theorem get_chosen_take (w : World) (gb sb wb n : Nat) (ct cs who : Nat) (src del en start : Int) (s : SnapS) (tries : Nat) (value : Int) (hS : IsSnap w sb wb s) (hwl : s.words.length = n) (hn : n ≤ 4096) (hph : s.phase = 1) (hu : ∀ x ∈ s.words, U64 x) (hen : en = 0 ∨ en = 1)
    (z : Nat) (hz : z < n) (hR : atR (rowW s.words) en = (z : Int))
    (hb : Blk w gb #[.int .i64 ct, .int .i64 cs, .int .i64 src, .int .i64 del, .int .i64 who, .int .i64 en, .int .i64 start, .pointer (some ⟨sb, 0, none⟩), .pointer none, .int .i64 tries, .int .u64 value, .int .i64 0] 103) :
    Calls Try.prog 59 #[.pointer (some ⟨gb, 0, none⟩)] w fun e w' => e = .returned (.tuple #[]) ∧ ∃ tb, w.heap.size ≤ tb ∧ Blk w' tb (take0 ⟨ct, cs, src, del⟩ who z (s.words.getD z 0)).row 113 ∧
      Blk w' gb #[.int .i64 ct, .int .i64 cs, .int .i64 src, .int .i64 del, .int .i64 who, .int .i64 en, .int .i64 start, .pointer (some ⟨sb, 0, none⟩), .pointer (some ⟨tb, 0, none⟩), .int .i64 tries, .int .u64 value, .int .i64 0] 103 ∧ Frm [gb] w w' := by
  have HC := Lib.hid (snap_words w sb wb n s hS hwl hn hph)
  have HB := Lib.hid hb
  have HR := Lib.hid hR
  have HU := Lib.hid hu
  have HWL := Lib.hid hwl
  have hbt := blk_lt hb
  obtain ⟨hrc, hrf⟩ := blk_S hb
  clear hS hwl hph hu hR hb
  generalize s.words = words at *
  go_enter Try.func59, Try.ntmps59
  go_wp2_with (first | (go_at_call 39; refine HC.out.mono ?_; rintro e w1 ⟨ob, rfl, hob, o1, q1⟩; have B1 := blk_frm HB.out q1 (by simp); clear hrc hrf; obtain ⟨hrc, hrf⟩ := blk_S B1; have hbt1 := blk_lt B1; have O1 := Lib.hid o1; have Q1 := Lib.hid q1; have HB1 := Lib.hid B1; clear o1 q1 B1) | (go_at_call 79; go_loud (refine (pick_at _ ob n words en hen O1.out HWL.out hn HU.out).mono ?_; rw [HR.out]; rintro e w2 ⟨rfl, q2⟩; have B2 := blk_frm HB1.out q2 (by simp); clear hrc hrf; obtain ⟨hrc, hrf⟩ := blk_S B2; have hbt2 := blk_lt B2; have Q2 := Lib.hid q2; have HB2 := Lib.hid B2; have O2 := Lib.hid (blk_frm O1.out Q2.out (by simp)); have hO2 := blk_lt O2.out; have HZ := Lib.hid (show z < words.length by (rw [HWL.out]; exact hz)); have hne : ob ≠ gb := (show ob ≠ gb by omega); clear q2 B2)))
  go_region_held3 (fun w' => (∀ o, o ≠ 8 → w'.cell? ⟨gb, o, none⟩ = (#[.int .i64 ct, .int .i64 cs, .int .i64 src, .int .i64 del, .int .i64 who, .int .i64 en, .int .i64 start, .pointer (some ⟨sb, 0, none⟩), .pointer none, .int .i64 tries, .int .u64 value, .int .i64 0] : Array Value)[o]?) ∧ (∀ o, w'.frozen? ⟨gb, o, none⟩ = false) ∧ w'.cell? ⟨ob, z, none⟩ = some (.int .u64 (words.getD z 0)))
    (first | exact ⟨(fld_of (blk_drew HB2.out) 8).1, (fld_of (blk_drew HB2.out) 8).2, wrow_cell (blk_drew O2.out) HZ.out⟩ | exact ⟨(fld_of B3 8).1, (fld_of B3 8).2, wrow_cell O3 HZ.out⟩ | exact ⟨(fld_set B3 8 _).1, (fld_set B3 8 _).2, wrow_cell (blk_other O3 hne _) HZ.out⟩)
    (first | (go_at_call 40; refine (take_new _ ct cs who z src del (words.getD z 0)).mono ?_; rintro e w3 ⟨tb, rfl, htb, T3, q3⟩; have B3 := blk_frm (blk_drew HB2.out) q3 (by simp); have O3 := blk_frm (blk_drew O2.out) q3 (by simp); have cx := blk_cell B3 8))
  have HB3 := Lib.hid B3
  have HT3 := Lib.hid T3
  have HQ3 := Lib.hid q3
  have htb' : w2.heap.size ≤ tb := htb
  have HS := Lib.hid (Nat.le_trans Q1.out.size Q2.out.size)
  clear B3 O3 T3 q3 cx hrc hrf
  go_wp2
  go_end0
  refine ⟨rfl, tb, Nat.le_trans HS.out htb', ?_, ?_, ?_⟩
  · exact blk_other HT3.out (show tb ≠ gb by omega) _
  · simpa using blk_set HB3.out 8 _
  · exact (((Q1.out.tr Q2.out).tr ((Frm.drew _ _).tr HQ3.out)).mono (by simp)).tr (Frm.setCell _ _ (by simp))

end Go.Proofs.Ytkcimjcmlibgpaa
