/-
  Package snap: a step as a function; a new one; its words. Conditions: the cells fit the layout; the thread is there; the log is short.
-/
import Derived.Test.YtkcimjcmlibgpaaSnap
import Derived.Deep.OwnRows
import Derived.Laws.CopyOwn
namespace Go.Proofs.Ytkcimjcmlibgpaa
open Go.RowKit

def SnapS.sl (n : Nat) (s : SnapS) : Nat := (s.start + s.k) % n
/-- A step of a Snap. -/
def SnapS.step (n : Nat) (s : SnapS) (m : MemS) : SnapS × MemS :=
  if s.phase ≠ 0 then (s, m)
  else (s.fin n (s.sl n) (m.at (s.sl n)) ((if s.k = 0 then decide (0 < s.pass) else s.same) && (m.at (s.sl n) == s.words.getD (s.sl n) 0)), m.ld s.who (s.sl n))

structure SnapS.Ok (s : SnapS) (n : Nat) : Prop where
  ph : s.phase = 0 ∨ s.phase = 1
  start : s.start < n
  k : s.k < n
  words : s.words.length = n
  pass : s.pass < 1099511627776

/-- A Snap in memory: its struct, its words. -/
structure IsSnap (w : World) (tb wb : Nat) (s : SnapS) : Prop where
  row : Blk w tb (s.row wb) 110
  words : Blk w wb (wrow s.words) 43
  ne : tb ≠ wb

structure SnapIn (s : SnapS) (n : Nat) (m : MemS) : Prop where
  fits : Fits s.cf n m
  who : s.who < s.cf.t
  log : m.log.length < 1099511627776

theorem snap_over (w : World) (tb wb : Nat) (pv : Value) (s : SnapS) (hs : Blk w tb (s.row wb) 110) (h : s.phase = 1) :
    Calls Try.prog 38 #[.pointer (some ⟨tb, 0, none⟩), pv] w fun e w' => e = .returned (.int .i64 s.phase) ∧ w = w' := by
  obtain ⟨hrc, hrf⟩ := blk_S hs
  obtain ⟨⟨ct, cs, src, del⟩, who, start, k, pass, same, words, phase⟩ := s
  simp only [SnapS.row] at *
  clear hs
  subst h
  go_enter Try.func38, Try.ntmps38
  go_wp2
  go_ret
  exact ⟨rfl, rfl⟩

theorem snap_step (w : World) (tb wb p n : Nat) (F : List Nat) (m : MemS) (s : SnapS) (hs : IsSnap w tb wb s) (hm : IsMem w p F m) (htb : tb ∉ F) (hwb : wb ∉ F) (hi : SnapIn s n m) (hok : s.Ok n) :
    Calls Try.prog 38 #[.pointer (some ⟨tb, 0, none⟩), .pointer (some ⟨p, 0, none⟩)] w fun e w' => e = .returned (.int .i64 (s.step n m).1.phase) ∧
      ∃ F', IsSnap w' tb wb (s.step n m).1 ∧ IsMem w' p F' (s.step n m).2 ∧ Upd (tb :: wb :: F) (tb :: wb :: F') w w' ∧ tb ∉ F' ∧ wb ∉ F' := by
  by_cases hph : s.phase = 0
  · obtain ⟨cf, who, start, k, pass, same, words, phase⟩ := s
    obtain ⟨ct, cs, src, del⟩ := cf
    obtain ⟨hfits, hwho, hlog⟩ := hi
    obtain ⟨_, hst, hk, hwl, hpa⟩ := hok
    obtain ⟨hrow, hwords, hne⟩ := hs
    simp only at hph hfits hwho hst hk hwl hpa
    subst hph
    have hrow' : Blk w tb #[.int .i64 ct, .int .i64 cs, .int .i64 src, .int .i64 del, .int .i64 who, .int .i64 start, .int .i64 k, .int .i64 pass, .bool same, .slice (some ⟨wb, 0, none⟩) n n, .int .i64 0] 110 := by
      simpa only [SnapS.row, hwl] using hrow
    have pack : ∀ (b : Bool), b = ((if k = 0 then decide (0 < pass) else same) && (m.at ((start + k) % n) == words.getD ((start + k) % n) 0)) →
        Calls Try.prog 38 #[.pointer (some ⟨tb, 0, none⟩), .pointer (some ⟨p, 0, none⟩)] w (fun e w' => e = .returned (.int .i64 ((⟨⟨ct, cs, src, del⟩, who, start, k, pass, same, words, 0⟩ : SnapS).fin n ((start + k) % n) (m.at ((start + k) % n)) b).phase) ∧
          ∃ F', Blk w' tb (((⟨⟨ct, cs, src, del⟩, who, start, k, pass, same, words, 0⟩ : SnapS).fin n ((start + k) % n) (m.at ((start + k) % n)) b).row wb) 110 ∧ Blk w' wb (wrow ((⟨⟨ct, cs, src, del⟩, who, start, k, pass, same, words, 0⟩ : SnapS).fin n ((start + k) % n) (m.at ((start + k) % n)) b).words) 43 ∧ IsMem w' p F' (m.ld who ((start + k) % n)) ∧ Upd (tb :: wb :: F) (tb :: wb :: F') w w' ∧ tb ∉ F' ∧ wb ∉ F') →
        Calls Try.prog 38 #[.pointer (some ⟨tb, 0, none⟩), .pointer (some ⟨p, 0, none⟩)] w fun e w' => e = .returned (.int .i64 (SnapS.step n ⟨⟨ct, cs, src, del⟩, who, start, k, pass, same, words, 0⟩ m).1.phase) ∧
          ∃ F', IsSnap w' tb wb (SnapS.step n ⟨⟨ct, cs, src, del⟩, who, start, k, pass, same, words, 0⟩ m).1 ∧ IsMem w' p F' (SnapS.step n ⟨⟨ct, cs, src, del⟩, who, start, k, pass, same, words, 0⟩ m).2 ∧ Upd (tb :: wb :: F) (tb :: wb :: F') w w' ∧ tb ∉ F' ∧ wb ∉ F' := by
      intro b hb h
      have e : SnapS.step n ⟨⟨ct, cs, src, del⟩, who, start, k, pass, same, words, 0⟩ m = ((⟨⟨ct, cs, src, del⟩, who, start, k, pass, same, words, 0⟩ : SnapS).fin n ((start + k) % n) (m.at ((start + k) % n)) b, m.ld who ((start + k) % n)) := by
        unfold SnapS.step SnapS.sl
        rw [if_neg (by simp), hb]
      rw [e]
      refine h.mono ?_
      rintro r w' ⟨h1, F', h2, h3, h4, h5, h6, h7⟩
      exact ⟨h1, F', ⟨h2, h3, hne⟩, h4, h5, h6, h7⟩
    by_cases hk0 : k = 0
    · subst hk0
      by_cases hp0 : pass = 0
      · subst hp0
        exact pack false (by simp) (snap_a w tb wb p n F m ct cs who start _ src del words same hm htb hwb hne hfits hwho hlog hwl hst rfl hrow' hwords)
      · exact pack _ (by simp [Nat.pos_of_ne_zero hp0]) (snap_b w tb wb p n F m ct cs who start _ src del words same pass hm htb hwb hne hfits hwho hlog hwl hst rfl (Nat.pos_of_ne_zero hp0) hrow' hwords hpa)
    · cases same with
      | false => exact pack false (by simp [hk0]) (snap_c w tb wb p n F m ct cs who start _ src del words k pass hm htb hwb hne hfits hwho hlog hwl hst rfl (Nat.pos_of_ne_zero hk0) hk hrow' hwords hpa)
      | true => exact pack _ (by simp [hk0]) (snap_d w tb wb p n F m ct cs who start _ src del words k pass hm htb hwb hne hfits hwho hlog hwl hst rfl (Nat.pos_of_ne_zero hk0) hk hrow' hwords hpa)
  · have hp : s.phase = 1 := by have := hok.ph; omega
    have e : s.step n m = (s, m) := by unfold SnapS.step; rw [if_pos hph]
    rw [e]
    refine (snap_over w tb wb _ s hs.row hp).mono ?_
    rintro r w' ⟨he, rfl⟩
    exact ⟨he, F, hs, hm, Upd.refl _ _, htb, hwb⟩

theorem Try.infoU64 : (Try.prog.info? 43).map (fun i => (i.zero, i.size, i.bytes)) = some (some (.int .u64 0), 1, 8) := by kernel_rfl

theorem made_wrow (n : Nat) : madeCells #[.int .u64 0] n = wrow (List.replicate n 0) := by
  apply Array.ext'
  rw [toList_madeCells_one]
  simp [wrow]

/-- From where on a Snap reads. -/
def startOf (start : Int) (n : Nat) : Nat := (IntKind.u64.wrap start).toNat % n

theorem u64_nn (x : Int) : 0 ≤ IntKind.u64.wrap x ∧ IntKind.u64.wrap x < 18446744073709551616 := by
  rw [IntKind.wrap_u64]; omega

set_option maxHeartbeats 1000000 in
theorem snap_words (w : World) (tb wb n : Nat) (s : SnapS) (hs : IsSnap w tb wb s) (hwl : s.words.length = n) (hn : n ≤ 4096) (hph : s.phase = 1) :
    Calls Try.prog 39 #[.pointer (some ⟨tb, 0, none⟩)] w fun e w' => ∃ ob, e = .returned (.slice (some ⟨ob, 0, none⟩) n n) ∧ w.heap.size ≤ ob ∧ Blk w' ob (wrow s.words) 43 ∧ Frm [] w w' := by
  obtain ⟨hrow, hwords, hne⟩ := hs
  obtain ⟨⟨ct, cs, src, del⟩, who, start, k, pass, same, words, phase⟩ := s
  simp only [SnapS.row] at *
  subst hph
  rw [hwl] at hrow
  obtain ⟨hrc, hrf⟩ := blk_S hrow
  have hbt := blk_lt hrow
  have hwt := blk_lt hwords
  have hmk := run_make_row' (P := Try.prog) 33 43 (.int .u64 0) 8 Try.underlying33 Try.infoU64 rfl .i64 .i64 n (by omega) (by omega)
  have HW := Lib.hid hwords
  have HWL := Lib.hid hwl
  have HNN := Lib.hid (made_wrow n)
  clear hrow hwords hwl
  go_enter Try.func39, Try.ntmps39
  go_wp2_with (refine wpList_copy_splice rfl (.tmp 15) (.tmp 19) 33 33 rfl 43 Try.underlying33 (by kernel_rfl) (some ⟨w.heap.size, 0, none⟩) (some ⟨wb, 0, none⟩) n n n n rfl rfl w.heap.size 0 ((List.replicate n (0 : Int)).map (Value.int .u64)) 43 ?g1 (words.map (Value.int .u64)) ?g2 ?g3 ?g4 ?g5 w.heap.size w ?g6 ?g7 ?g8)
  case g1 =>
    rw [HNN.out]
    exact blk_new w (wrow (List.replicate n 0)) 43
  case g2 => simp [HWL.out]
  case g3 =>
    intro _ j a hj
    rw [blk_cell HW.out]
    simpa [wrow] using hj
  case g4 => simp [HWL.out]
  case g5 => intro v hv; obtain ⟨x, _, rfl⟩ := List.mem_map.1 hv; rfl
  case g6 => exact (Below.refl _ _).alloc (Nat.le_refl _) _
  case g7 => exact Nat.le_refl _
  case g8 =>
    intro w2 hg hb
    have HB := Lib.hid hb
    clear hb
    go_wp2
    go_ret
    refine ⟨_, rfl, Nat.le_refl _, ?_, Frm.of_below HB.out⟩
    have := hg.out
    have e : splice (List.replicate n (Value.int .u64 0)) 0 (words.map (Value.int .u64)) = words.map (Value.int .u64) := by
      unfold splice; simp [HWL.out]
    rw [e] at this
    exact this

set_option maxHeartbeats 1000000 in
theorem snap_new (w : World) (ct cs who n : Nat) (src del start : Int) (ht : ct ≤ 64) (hs : cs ≤ 64) (hn : n = ct * cs) (hn0 : 1 ≤ n) :
    Calls Try.prog 36 #[.agg #[.int .i64 ct, .int .i64 cs, .int .i64 src, .int .i64 del], .int .i64 who, .int .i64 start] w fun e w' =>
      ∃ tb wb, e = .returned (.pointer (some ⟨tb, 0, none⟩)) ∧ w.heap.size ≤ tb ∧ w.heap.size ≤ wb ∧ IsSnap w' tb wb ⟨⟨ct, cs, src, del⟩, who, startOf start n, 0, 0, false, List.replicate n 0, 0⟩ ∧ Frm [] w w' := by
  have hle := mul_le ct cs ht hs
  rw [← hn] at hle
  have HN := Lib.hid hn
  obtain ⟨hu0, hu1⟩ := u64_nn start
  have hst : (IntKind.u64.wrap start).tmod (n : Int) = (startOf start n : Nat) := by
    rw [Int.tmod_eq_emod_of_nonneg hu0]; unfold startOf; rw [Int.natCast_emod, Int.toNat_of_nonneg hu0]
  have hsb : startOf start n < n := Nat.mod_lt _ (by omega)
  obtain ⟨U, hU⟩ : ∃ U, IntKind.u64.wrap start = U := ⟨_, rfl⟩
  rw [hU] at hu0 hu1 hst
  have hn1 : ¬ n = 0 := by omega
  have hnu : IntKind.u64.wrap (n : Int) = (n : Int) := IntWalk.u64_in _ (by omega)
  have hw1 : IntKind.u64.wrap (startOf start n : Int) = (startOf start n : Int) := IntWalk.u64_in _ (by omega)
  have hw2 : IntKind.i64.wrap (startOf start n : Int) = (startOf start n : Int) := w64 (by omega) (by omega)
  have hmk := run_make_row' (P := Try.prog) 33 43 (.int .u64 0) 8 Try.underlying33 Try.infoU64 rfl .i64 .i64 n (by omega) (by omega)
  clear hn hu1
  go_enter Try.func36, Try.ntmps36
  go_wp2_with fail
  go_region_held3 (fun w' => (∀ o, w'.cell? ⟨w.heap.size, o, none⟩ = (#[.int .i64 ct, .int .i64 cs, .int .i64 src, .int .i64 del] : Array Value)[o]?))
    (first | exact fun o => blk_cell (blk_drew (blk_new w _ 27)) o | exact fun o => blk_cell B1 o | exact fun o => blk_cell B2 o | exact fun o => blk_cell (blk_alloc B2 _) o | exact fun o => blk_cell (blk_alloc (blk_alloc B2 _) _) o)
    (first | (go_at_call 26; refine (lay_all _ ct cs src del ht hs n HN.out).mono ?_; rintro e w1 ⟨rfl, q1⟩; have B1 := blk_frm (blk_drew (blk_new w _ 27)) q1 (by simp)) | (go_at_call 26; refine (lay_all _ ct cs src del ht hs n HN.out).mono ?_; rintro e w2 ⟨rfl, q2⟩; have B2 := blk_frm B1 q2 (by simp)))
  have hz : w.heap.size + 1 ≤ w2.heap.size := by
    have a1 := q1.size
    have a2 := q2.size
    have a3 : ((w.alloc (.cells #[.int .i64 ct, .int .i64 cs, .int .i64 src, .int .i64 del] 27)).drew).heap.size = w.heap.size + 1 := size_al _ _
    omega
  have W1 : Blk (w2.alloc (.cells (madeCells #[.int .u64 0] n) 43)) w2.heap.size (wrow (List.replicate n 0)) 43 := by rw [made_wrow]; exact blk_new _ _ _
  have T1 : Blk ((w2.alloc (.cells (madeCells #[.int .u64 0] n) 43)).alloc (.cells (SnapS.row ⟨⟨ct, cs, src, del⟩, who, startOf start n, 0, 0, false, List.replicate n 0, 0⟩ w2.heap.size) 110)) (w2.heap.size + 1) (SnapS.row ⟨⟨ct, cs, src, del⟩, who, startOf start n, 0, 0, false, List.replicate n 0, 0⟩ w2.heap.size) 110 := by
    have := blk_new (w2.alloc (.cells (madeCells #[.int .u64 0] n) 43)) (SnapS.row ⟨⟨ct, cs, src, del⟩, who, startOf start n, 0, 0, false, List.replicate n 0, 0⟩ w2.heap.size) 110
    rw [size_al] at this; exact this
  have e : SnapS.row ⟨⟨ct, cs, src, del⟩, who, startOf start n, 0, 0, false, List.replicate n 0, 0⟩ w2.heap.size = #[.int .i64 ct, .int .i64 cs, .int .i64 src, .int .i64 del, .int .i64 who, .int .i64 (startOf start n), .int .i64 0, .int .i64 0, .bool false, .slice (some ⟨w2.heap.size, 0, none⟩) n n, .int .i64 0] := by simp [SnapS.row]
  rw [e] at T1
  have HT1 := Lib.hid T1
  have HW1 := Lib.hid W1
  have HE := Lib.hid e
  have HF := Lib.hid (((((Frm.alloc [] w _).tr (Frm.drew _ _)).tr q1).tr q2).tr (Frm.alloc _ _ (.cells (madeCells #[.int .u64 0] n) 43)))
  clear T1 W1 e q1 q2 B1 B2 hst hU hnu hw1 hw2 hmk
  go_wp2
  go_ret
  refine ⟨w2.heap.size + 1, w2.heap.size, rfl, by omega, by omega, ⟨?_, ?_, by omega⟩, HF.out.tr (Frm.alloc _ _ _)⟩
  · rw [HE.out]; exact HT1.out
  · exact blk_alloc HW1.out _

end Go.Proofs.Ytkcimjcmlibgpaa
