/-
  Package snap: a step, way by way. Conditions: the cells fit the layout; the thread is there; the log is short.
-/
import Derived.Test.YtkcimjcmlibgpaaTakeC
namespace Go.Proofs.Ytkcimjcmlibgpaa
open Go.RowKit

structure SnapS where
  cf : Cf
  who : Nat
  start : Nat
  k : Nat
  pass : Nat
  same : Bool
  words : List Int
  phase : Int

def SnapS.row (s : SnapS) (wb : Nat) : Array Value := #[.int .i64 s.cf.t, .int .i64 s.cf.s, .int .i64 s.cf.src, .int .i64 s.cf.del, .int .i64 s.who, .int .i64 s.start, .int .i64 s.k, .int .i64 s.pass, .bool s.same, .slice (some ⟨wb, 0, none⟩) s.words.length s.words.length, .int .i64 s.phase]
def wrow (l : List Int) : Array Value := (l.map (Value.int .u64)).toArray

/-- What a step that read x in place sl leaves; b: are all words so far the same? -/
def SnapS.fin (s : SnapS) (n sl : Nat) (x : Int) (b : Bool) : SnapS :=
  if s.k + 1 < n then { s with k := s.k + 1, same := b, words := s.words.set sl x }
  else { s with k := 0, pass := s.pass + 1, same := b, words := s.words.set sl x, phase := if b then 1 else 0 }

theorem wrow_get (l : List Int) (k : Nat) (h : k < l.length) : (wrow l)[k]? = some (.int .u64 (l.getD k 0)) := by
  simp [wrow, List.getD, h]
theorem wrow_set (l : List Int) (k : Nat) (x : Int) : (wrow l).setIfInBounds k (.int .u64 x) = wrow (l.set k x) := by simp [wrow, List.map_set]

set_option maxHeartbeats 2000000 in
theorem snap_a (w : World) (tb wb p n : Nat) (F : List Nat) (m : MemS) (ct cs who start sl : Nat) (src del : Int) (words : List Int) (same : Bool) (hm : IsMem w p F m) (htb : tb ∉ F) (hwb : wb ∉ F) (hne : tb ≠ wb)
    (hf : Fits ⟨ct, cs, src, del⟩ n m) (hwho : who < ct) (hlog : m.log.length < 1099511627776) (hwl : words.length = n) (hst : start < n) (hsl : sl = (start + 0) % n)
    (hb : Blk w tb #[.int .i64 ct, .int .i64 cs, .int .i64 src, .int .i64 del, .int .i64 who, .int .i64 start, .int .i64 0, .int .i64 0, .bool same, .slice (some ⟨wb, 0, none⟩) n n, .int .i64 0] 110) (hw : Blk w wb (wrow words) 43) :
    Calls Try.prog 38 #[.pointer (some ⟨tb, 0, none⟩), .pointer (some ⟨p, 0, none⟩)] w fun e w' => e = .returned (.int .i64 (SnapS.fin (⟨⟨ct, cs, src, del⟩, who, start, 0, 0, same, words, 0⟩ : SnapS) n sl (m.at sl) false).phase) ∧
      ∃ F', Blk w' tb ((SnapS.fin (⟨⟨ct, cs, src, del⟩, who, start, 0, 0, same, words, 0⟩ : SnapS) n sl (m.at sl) false).row wb) 110 ∧ Blk w' wb (wrow (SnapS.fin (⟨⟨ct, cs, src, del⟩, who, start, 0, 0, same, words, 0⟩ : SnapS) n sl (m.at sl) false).words) 43 ∧ IsMem w' p F' (m.ld who sl) ∧ Upd (tb :: wb :: F) (tb :: wb :: F') w w' ∧ tb ∉ F' ∧ wb ∉ F' := by
  have h1 := hf.t1
  have h2 := hf.s1
  have h3 := hf.le
  have h4 := hf.pos
  simp only at h1 h2
  have hsn : sl < n := by rw [hsl]; exact Nat.mod_lt _ (by omega)
  have hs0 : (0 : Int) ≤ (sl : Int) := Int.natCast_nonneg _
  have hs1 : (sl : Int) < (n : Int) := by omega
  have hn0 : ¬ n = 0 := by omega
  have ha0 : IntKind.i64.wrap (start : Int) = (start : Int) := w64 (by omega) (by omega)
  have hE : ((start : Int)) % (n : Int) = (sl : Int) := by rw [hsl]; simp
  have ha2 : ((start : Int)).tmod (n : Int) = (sl : Int) := by rw [Int.tmod_eq_emod_of_nonneg (by omega)]; exact hE
  have ha3 : IntKind.i64.wrap (sl : Int) = (sl : Int) := w64 (by omega) (by omega)
  have hy : words.getD sl 0 = words.getD sl 0 := rfl
  have B0 : Blk (w.setCell ⟨tb, 8, none⟩ (.bool false)) tb #[.int .i64 ct, .int .i64 cs, .int .i64 src, .int .i64 del, .int .i64 who, .int .i64 start, .int .i64 0, .int .i64 0, .bool false, .slice (some ⟨wb, 0, none⟩) n n, .int .i64 0] 110 := by simpa using blk_set hb 8 (.bool false)
  have W0 : Blk (w.setCell ⟨tb, 8, none⟩ (.bool false)) wb (wrow words) 43 := blk_other hw (Ne.symm hne) _
  have M0 : IsMem (w.setCell ⟨tb, 8, none⟩ (.bool false)) p F m := hm.set htb _
  have U0 : Upd (tb :: wb :: F) (tb :: wb :: F) w (w.setCell ⟨tb, 8, none⟩ (.bool false)) := Upd.set _ _ _ _ _ (by simp)
  have hn1 : n < 9223372036854775808 := by omega
  have hbt := blk_lt hb
  have hwt := blk_lt hw
  have HN := Lib.hid hf.hn
  have HLEN := Lib.hid hf.len
  have HT := Lib.hid htb
  have HW := Lib.hid hwb
  have HWL := Lib.hid hwl
  have HSL := Lib.hid hsl
  have hne' : wb ≠ tb := Ne.symm hne
  obtain ⟨hrc, hrf⟩ := blk_S hb
  clear hm htb hwb hf hwl hsl hb hw hy
  have HB0 := Lib.hid B0
  have HW0 := Lib.hid W0
  have HM0 := Lib.hid M0
  have HU0 := Lib.hid U0
  clear B0 W0 M0 U0
  go_enter Try.func38, Try.ntmps38
  go_wp2_with fail
  generalize (w.setCell ⟨tb, 8, none⟩ (.bool false)) = W at *
  clear hrc hrf
  go_region_held3 (fun w' => (∀ o, w'.cell? ⟨tb, o, none⟩ = (#[.int .i64 ct, .int .i64 cs, .int .i64 src, .int .i64 del, .int .i64 who, .int .i64 start, .int .i64 0, .int .i64 0, .bool false, .slice (some ⟨wb, 0, none⟩) n n, .int .i64 0] : Array Value)[o]?) ∧ (∀ o, w'.frozen? ⟨tb, o, none⟩ = false))
    (first | exact blk_S (blk_drew HB0.out) | exact blk_S B1)
    ((go_at_call 26; refine (lay_all _ ct cs src del h1 h2 n HN.out).mono ?_; rintro e w1 ⟨rfl, q1⟩; have B1 := blk_frm (blk_drew HB0.out) q1 (by simp)))
  have HB1 := Lib.hid B1
  have HQ1 := Lib.hid q1
  clear B1 q1
  go_wp2_with fail
  go_region_held3 (fun w' => (∀ o, w'.cell? ⟨tb, o, none⟩ = (#[.int .i64 ct, .int .i64 cs, .int .i64 src, .int .i64 del, .int .i64 who, .int .i64 start, .int .i64 0, .int .i64 0, .bool false, .slice (some ⟨wb, 0, none⟩) n n, .int .i64 0] : Array Value)[o]?) ∧ (∀ o, w'.frozen? ⟨tb, o, none⟩ = false))
    (first | exact blk_S (blk_drew HB1.out) | exact blk_S B2 | exact blk_S B3)
    (first | (go_at_call 30; refine (lay_word _ ct cs src del sl).mono ?_; rintro e w2 ⟨rfl, q2⟩; have B2 := blk_frm (blk_drew HB1.out) q2 (by simp)) | (go_at_call 63; refine (mem_load _ p F m who sl (((HM0.out.drew.ext HQ1.out).drew).ext q2) (by have := HLEN.out; omega) hlog).mono ?_; rintro e w3 ⟨rfl, F', M3, u3⟩; have B3 := blk_frm B2 u3.toFrm HT.out))
  have W3 : Blk w3 wb (wrow words) 43 := blk_frm (blk_frm (blk_drew (blk_frm (blk_drew HW0.out) HQ1.out (by simp))) q2 (by simp)) u3.toFrm HW.out
  have U3 : Upd (tb :: wb :: F) (tb :: wb :: F') w w3 := ((((HU0.out.trans (Upd.drew _ _)).trans (Upd.of_frm _ HQ1.out)).trans (Upd.drew _ _)).trans (Upd.of_frm _ q2)).trans ((u3.more wb).more tb)
  have N3 : tb ∉ F' := u3.not (Nat.lt_of_lt_of_le (blk_lt HB1.out) q2.size) HT.out
  have N3' : wb ∉ F' := u3.not (Nat.lt_of_lt_of_le (blk_lt (blk_frm (blk_drew HW0.out) HQ1.out (by simp))) q2.size) HW.out
  obtain ⟨hrc, hrf⟩ := blk_S B3
  have cw : w3.cell? ⟨wb, sl, none⟩ = some (.int .u64 (words.getD sl 0)) := by rw [blk_cell W3, wrow_get words sl (by rw [HWL.out]; omega)]
  have fw : w3.frozen? ⟨wb, sl, none⟩ = false := blk_free W3 sl
  have HB3 := Lib.hid B3
  have HM3 := Lib.hid M3
  have HW3 := Lib.hid W3
  have HU3 := Lib.hid U3
  have HN3 := Lib.hid N3
  have HN3' := Lib.hid N3'
  clear B3 B2 M3 W3 U3 N3 N3' u3 q2 HB1 HQ1 HM0 HU0 HB0 HW0
  generalize hY : words.getD sl 0 = y at *
  have HY := Lib.hid hY
  clear hY
  generalize hX : m.at sl = x at *
  have HX := Lib.hid hX
  clear hX
  have B4 : Blk (((w3.setCell ⟨tb, 8, none⟩ (.bool false)).setCell ⟨wb, sl, none⟩ (.int .u64 x)).setCell ⟨tb, 6, none⟩ (.int .i64 1)) tb #[.int .i64 ct, .int .i64 cs, .int .i64 src, .int .i64 del, .int .i64 who, .int .i64 start, .int .i64 1, .int .i64 0, .bool false, .slice (some ⟨wb, 0, none⟩) n n, .int .i64 0] 110 := by simpa using blk_set (blk_other (blk_set HB3.out 8 (.bool false)) hne _) 6 (.int .i64 1)
  have W4 : Blk (((w3.setCell ⟨tb, 8, none⟩ (.bool false)).setCell ⟨wb, sl, none⟩ (.int .u64 x)).setCell ⟨tb, 6, none⟩ (.int .i64 1)) wb (wrow (words.set sl x)) 43 := by
    have := blk_other (blk_set (blk_other (a := ⟨tb, 8, none⟩) HW3.out hne' (.bool false)) sl (.int .u64 x)) (a := ⟨tb, 6, none⟩) hne' (.int .i64 1)
    rw [wrow_set] at this; exact this
  have M4 : IsMem (((w3.setCell ⟨tb, 8, none⟩ (.bool false)).setCell ⟨wb, sl, none⟩ (.int .u64 x)).setCell ⟨tb, 6, none⟩ (.int .i64 1)) p F' (m.put who 0 sl x true) := ((HM3.out.set HN3.out _).set HN3'.out _).set HN3.out _
  have U4 : Upd (tb :: wb :: F) (tb :: wb :: F') w (((w3.setCell ⟨tb, 8, none⟩ (.bool false)).setCell ⟨wb, sl, none⟩ (.int .u64 x)).setCell ⟨tb, 6, none⟩ (.int .i64 1)) := ((HU3.out.trans (Upd.set _ _ _ _ _ (by simp))).trans (Upd.set _ _ _ _ _ (by simp))).trans (Upd.set _ _ _ _ _ (by simp))
  have HB4 := Lib.hid B4
  have HM4 := Lib.hid M4
  have HW4 := Lib.hid W4
  have HU4 := Lib.hid U4
  clear B4 M4 W4 U4 HB3 HM3 HW3 HU3
  go_wp2_with fail
  generalize (((w3.setCell ⟨tb, 8, none⟩ (.bool false)).setCell ⟨wb, sl, none⟩ (.int .u64 x)).setCell ⟨tb, 6, none⟩ (.int .i64 1)) = W' at *
  clear hrc hrf cw fw
  go_region_held3 (fun w' => (∀ o, w'.cell? ⟨tb, o, none⟩ = (#[.int .i64 ct, .int .i64 cs, .int .i64 src, .int .i64 del, .int .i64 who, .int .i64 start, .int .i64 1, .int .i64 0, .bool false, .slice (some ⟨wb, 0, none⟩) n n, .int .i64 0] : Array Value)[o]?) ∧ (∀ o, w'.frozen? ⟨tb, o, none⟩ = false))
    (first | exact blk_S (blk_drew HB4.out) | exact blk_S B5)
    ((go_at_call 26; refine (lay_all _ ct cs src del h1 h2 n HN.out).mono ?_; rintro e w5 ⟨rfl, q5⟩; have B5 := blk_frm (blk_drew HB4.out) q5 (by simp)))
  obtain ⟨hrc, hrf⟩ := blk_S B5
  have HB5 := Lib.hid B5
  have M5 := Lib.hid ((HM4.out.drew).ext q5)
  have W5 := Lib.hid (blk_frm (blk_drew HW4.out) q5 (by simp))
  have U5 := Lib.hid ((HU4.out.trans (Upd.drew _ _)).trans (Upd.of_frm _ q5))
  clear B5 q5 HB4 HM4 HW4 HU4
  have hl : (words.set sl x).length = n := by simp [HWL.out]
  by_cases hlt : 0 + 1 < n
  · have E := Lib.hid (show SnapS.fin (⟨⟨ct, cs, src, del⟩, who, start, 0, 0, same, words, 0⟩ : SnapS) n sl x false = ⟨⟨ct, cs, src, del⟩, who, start, 0 + 1, 0, false, words.set sl x, 0⟩ from if_pos hlt)
    have hlt' : ((0 : Int) + 1 : Int) < (n : Int) := by omega
    go_wp2
    go_ret
    obtain rfl := HX.out
    obtain rfl := HY.out
    rw [E.out]
    exact ⟨rfl, F', by simpa [SnapS.row, hl] using HB5.out, W5.out, M5.out, U5.out, HN3.out, HN3'.out⟩
  · have hlt' : (n : Int) ≤ (0 : Int) + 1 := by omega
    have E := Lib.hid (show SnapS.fin (⟨⟨ct, cs, src, del⟩, who, start, 0, 0, same, words, 0⟩ : SnapS) n sl x false = ⟨⟨ct, cs, src, del⟩, who, start, 0, 0 + 1, false, words.set sl x, 0⟩ from by unfold SnapS.fin; rw [if_neg hlt]; simp)
    clear hlt
    go_wp2
    go_ret
    obtain rfl := HX.out
    obtain rfl := HY.out
    rw [E.out]
    exact ⟨rfl, F', by simpa [SnapS.row, hl] using blk_set (blk_set HB5.out 6 _) 7 _, blk_other (blk_other W5.out hne' _) hne' _, (M5.out.set HN3.out _).set HN3.out _, ((U5.out.trans (Upd.set _ _ _ _ _ (by simp))).trans (Upd.set _ _ _ _ _ (by simp))), HN3.out, HN3'.out⟩

set_option maxHeartbeats 2000000 in
theorem snap_b (w : World) (tb wb p n : Nat) (F : List Nat) (m : MemS) (ct cs who start sl : Nat) (src del : Int) (words : List Int) (same : Bool) (pass : Nat) (hm : IsMem w p F m) (htb : tb ∉ F) (hwb : wb ∉ F) (hne : tb ≠ wb)
    (hf : Fits ⟨ct, cs, src, del⟩ n m) (hwho : who < ct) (hlog : m.log.length < 1099511627776) (hwl : words.length = n) (hst : start < n) (hsl : sl = (start + 0) % n) (hpass : 0 < pass)
    (hb : Blk w tb #[.int .i64 ct, .int .i64 cs, .int .i64 src, .int .i64 del, .int .i64 who, .int .i64 start, .int .i64 0, .int .i64 pass, .bool same, .slice (some ⟨wb, 0, none⟩) n n, .int .i64 0] 110) (hw : Blk w wb (wrow words) 43) (hpa : pass < 1099511627776) :
    Calls Try.prog 38 #[.pointer (some ⟨tb, 0, none⟩), .pointer (some ⟨p, 0, none⟩)] w fun e w' => e = .returned (.int .i64 (SnapS.fin (⟨⟨ct, cs, src, del⟩, who, start, 0, pass, same, words, 0⟩ : SnapS) n sl (m.at sl) (m.at sl == words.getD sl 0)).phase) ∧
      ∃ F', Blk w' tb ((SnapS.fin (⟨⟨ct, cs, src, del⟩, who, start, 0, pass, same, words, 0⟩ : SnapS) n sl (m.at sl) (m.at sl == words.getD sl 0)).row wb) 110 ∧ Blk w' wb (wrow (SnapS.fin (⟨⟨ct, cs, src, del⟩, who, start, 0, pass, same, words, 0⟩ : SnapS) n sl (m.at sl) (m.at sl == words.getD sl 0)).words) 43 ∧ IsMem w' p F' (m.ld who sl) ∧ Upd (tb :: wb :: F) (tb :: wb :: F') w w' ∧ tb ∉ F' ∧ wb ∉ F' := by
  have h1 := hf.t1
  have h2 := hf.s1
  have h3 := hf.le
  have h4 := hf.pos
  simp only at h1 h2
  have hsn : sl < n := by rw [hsl]; exact Nat.mod_lt _ (by omega)
  have hs0 : (0 : Int) ≤ (sl : Int) := Int.natCast_nonneg _
  have hs1 : (sl : Int) < (n : Int) := by omega
  have hn0 : ¬ n = 0 := by omega
  have ha0 : IntKind.i64.wrap (start : Int) = (start : Int) := w64 (by omega) (by omega)
  have hE : ((start : Int)) % (n : Int) = (sl : Int) := by rw [hsl]; simp
  have ha2 : ((start : Int)).tmod (n : Int) = (sl : Int) := by rw [Int.tmod_eq_emod_of_nonneg (by omega)]; exact hE
  have ha3 : IntKind.i64.wrap (sl : Int) = (sl : Int) := w64 (by omega) (by omega)
  have hy : words.getD sl 0 = words.getD sl 0 := rfl
  have hp1 : (0 : Int) < (pass : Int) := by omega
  have B0 : Blk (w.setCell ⟨tb, 8, none⟩ (.bool true)) tb #[.int .i64 ct, .int .i64 cs, .int .i64 src, .int .i64 del, .int .i64 who, .int .i64 start, .int .i64 0, .int .i64 pass, .bool true, .slice (some ⟨wb, 0, none⟩) n n, .int .i64 0] 110 := by simpa using blk_set hb 8 (.bool true)
  have W0 : Blk (w.setCell ⟨tb, 8, none⟩ (.bool true)) wb (wrow words) 43 := blk_other hw (Ne.symm hne) _
  have M0 : IsMem (w.setCell ⟨tb, 8, none⟩ (.bool true)) p F m := hm.set htb _
  have U0 : Upd (tb :: wb :: F) (tb :: wb :: F) w (w.setCell ⟨tb, 8, none⟩ (.bool true)) := Upd.set _ _ _ _ _ (by simp)
  have hn1 : n < 9223372036854775808 := by omega
  have hbt := blk_lt hb
  have hwt := blk_lt hw
  have HN := Lib.hid hf.hn
  have HLEN := Lib.hid hf.len
  have HT := Lib.hid htb
  have HW := Lib.hid hwb
  have HWL := Lib.hid hwl
  have HSL := Lib.hid hsl
  have hne' : wb ≠ tb := Ne.symm hne
  obtain ⟨hrc, hrf⟩ := blk_S hb
  clear hm htb hwb hf hwl hsl hb hw hy
  have HB0 := Lib.hid B0
  have HW0 := Lib.hid W0
  have HM0 := Lib.hid M0
  have HU0 := Lib.hid U0
  clear B0 W0 M0 U0
  go_enter Try.func38, Try.ntmps38
  go_wp2_with fail
  generalize (w.setCell ⟨tb, 8, none⟩ (.bool true)) = W at *
  clear hrc hrf
  go_region_held3 (fun w' => (∀ o, w'.cell? ⟨tb, o, none⟩ = (#[.int .i64 ct, .int .i64 cs, .int .i64 src, .int .i64 del, .int .i64 who, .int .i64 start, .int .i64 0, .int .i64 pass, .bool true, .slice (some ⟨wb, 0, none⟩) n n, .int .i64 0] : Array Value)[o]?) ∧ (∀ o, w'.frozen? ⟨tb, o, none⟩ = false))
    (first | exact blk_S (blk_drew HB0.out) | exact blk_S B1)
    ((go_at_call 26; refine (lay_all _ ct cs src del h1 h2 n HN.out).mono ?_; rintro e w1 ⟨rfl, q1⟩; have B1 := blk_frm (blk_drew HB0.out) q1 (by simp)))
  have HB1 := Lib.hid B1
  have HQ1 := Lib.hid q1
  clear B1 q1
  go_wp2_with fail
  go_region_held3 (fun w' => (∀ o, w'.cell? ⟨tb, o, none⟩ = (#[.int .i64 ct, .int .i64 cs, .int .i64 src, .int .i64 del, .int .i64 who, .int .i64 start, .int .i64 0, .int .i64 pass, .bool true, .slice (some ⟨wb, 0, none⟩) n n, .int .i64 0] : Array Value)[o]?) ∧ (∀ o, w'.frozen? ⟨tb, o, none⟩ = false))
    (first | exact blk_S (blk_drew HB1.out) | exact blk_S B2 | exact blk_S B3)
    (first | (go_at_call 30; refine (lay_word _ ct cs src del sl).mono ?_; rintro e w2 ⟨rfl, q2⟩; have B2 := blk_frm (blk_drew HB1.out) q2 (by simp)) | (go_at_call 63; refine (mem_load _ p F m who sl (((HM0.out.drew.ext HQ1.out).drew).ext q2) (by have := HLEN.out; omega) hlog).mono ?_; rintro e w3 ⟨rfl, F', M3, u3⟩; have B3 := blk_frm B2 u3.toFrm HT.out))
  have W3 : Blk w3 wb (wrow words) 43 := blk_frm (blk_frm (blk_drew (blk_frm (blk_drew HW0.out) HQ1.out (by simp))) q2 (by simp)) u3.toFrm HW.out
  have U3 : Upd (tb :: wb :: F) (tb :: wb :: F') w w3 := ((((HU0.out.trans (Upd.drew _ _)).trans (Upd.of_frm _ HQ1.out)).trans (Upd.drew _ _)).trans (Upd.of_frm _ q2)).trans ((u3.more wb).more tb)
  have N3 : tb ∉ F' := u3.not (Nat.lt_of_lt_of_le (blk_lt HB1.out) q2.size) HT.out
  have N3' : wb ∉ F' := u3.not (Nat.lt_of_lt_of_le (blk_lt (blk_frm (blk_drew HW0.out) HQ1.out (by simp))) q2.size) HW.out
  obtain ⟨hrc, hrf⟩ := blk_S B3
  have cw : w3.cell? ⟨wb, sl, none⟩ = some (.int .u64 (words.getD sl 0)) := by rw [blk_cell W3, wrow_get words sl (by rw [HWL.out]; omega)]
  have fw : w3.frozen? ⟨wb, sl, none⟩ = false := blk_free W3 sl
  have HB3 := Lib.hid B3
  have HM3 := Lib.hid M3
  have HW3 := Lib.hid W3
  have HU3 := Lib.hid U3
  have HN3 := Lib.hid N3
  have HN3' := Lib.hid N3'
  clear B3 B2 M3 W3 U3 N3 N3' u3 q2 HB1 HQ1 HM0 HU0 HB0 HW0
  generalize hY : words.getD sl 0 = y at *
  have HY := Lib.hid hY
  clear hY
  generalize hX : m.at sl = x at *
  have HX := Lib.hid hX
  clear hX
  have B4 : Blk (((w3.setCell ⟨tb, 8, none⟩ (.bool (x == y))).setCell ⟨wb, sl, none⟩ (.int .u64 x)).setCell ⟨tb, 6, none⟩ (.int .i64 1)) tb #[.int .i64 ct, .int .i64 cs, .int .i64 src, .int .i64 del, .int .i64 who, .int .i64 start, .int .i64 1, .int .i64 pass, .bool (x == y), .slice (some ⟨wb, 0, none⟩) n n, .int .i64 0] 110 := by simpa using blk_set (blk_other (blk_set HB3.out 8 (.bool (x == y))) hne _) 6 (.int .i64 1)
  have W4 : Blk (((w3.setCell ⟨tb, 8, none⟩ (.bool (x == y))).setCell ⟨wb, sl, none⟩ (.int .u64 x)).setCell ⟨tb, 6, none⟩ (.int .i64 1)) wb (wrow (words.set sl x)) 43 := by
    have := blk_other (blk_set (blk_other (a := ⟨tb, 8, none⟩) HW3.out hne' (.bool (x == y))) sl (.int .u64 x)) (a := ⟨tb, 6, none⟩) hne' (.int .i64 1)
    rw [wrow_set] at this; exact this
  have M4 : IsMem (((w3.setCell ⟨tb, 8, none⟩ (.bool (x == y))).setCell ⟨wb, sl, none⟩ (.int .u64 x)).setCell ⟨tb, 6, none⟩ (.int .i64 1)) p F' (m.put who 0 sl x true) := ((HM3.out.set HN3.out _).set HN3'.out _).set HN3.out _
  have U4 : Upd (tb :: wb :: F) (tb :: wb :: F') w (((w3.setCell ⟨tb, 8, none⟩ (.bool (x == y))).setCell ⟨wb, sl, none⟩ (.int .u64 x)).setCell ⟨tb, 6, none⟩ (.int .i64 1)) := ((HU3.out.trans (Upd.set _ _ _ _ _ (by simp))).trans (Upd.set _ _ _ _ _ (by simp))).trans (Upd.set _ _ _ _ _ (by simp))
  have HB4 := Lib.hid B4
  have HM4 := Lib.hid M4
  have HW4 := Lib.hid W4
  have HU4 := Lib.hid U4
  clear B4 M4 W4 U4 HB3 HM3 HW3 HU3
  go_wp2_with fail
  generalize (((w3.setCell ⟨tb, 8, none⟩ (.bool (x == y))).setCell ⟨wb, sl, none⟩ (.int .u64 x)).setCell ⟨tb, 6, none⟩ (.int .i64 1)) = W' at *
  clear hrc hrf cw fw
  go_region_held3 (fun w' => (∀ o, w'.cell? ⟨tb, o, none⟩ = (#[.int .i64 ct, .int .i64 cs, .int .i64 src, .int .i64 del, .int .i64 who, .int .i64 start, .int .i64 1, .int .i64 pass, .bool (x == y), .slice (some ⟨wb, 0, none⟩) n n, .int .i64 0] : Array Value)[o]?) ∧ (∀ o, w'.frozen? ⟨tb, o, none⟩ = false))
    (first | exact blk_S (blk_drew HB4.out) | exact blk_S B5)
    ((go_at_call 26; refine (lay_all _ ct cs src del h1 h2 n HN.out).mono ?_; rintro e w5 ⟨rfl, q5⟩; have B5 := blk_frm (blk_drew HB4.out) q5 (by simp)))
  obtain ⟨hrc, hrf⟩ := blk_S B5
  have HB5 := Lib.hid B5
  have M5 := Lib.hid ((HM4.out.drew).ext q5)
  have W5 := Lib.hid (blk_frm (blk_drew HW4.out) q5 (by simp))
  have U5 := Lib.hid ((HU4.out.trans (Upd.drew _ _)).trans (Upd.of_frm _ q5))
  clear B5 q5 HB4 HM4 HW4 HU4
  have hl : (words.set sl x).length = n := by simp [HWL.out]
  by_cases hlt : 0 + 1 < n
  · have E := Lib.hid (show SnapS.fin (⟨⟨ct, cs, src, del⟩, who, start, 0, pass, same, words, 0⟩ : SnapS) n sl x (x == y) = ⟨⟨ct, cs, src, del⟩, who, start, 0 + 1, pass, (x == y), words.set sl x, 0⟩ from if_pos hlt)
    have hlt' : ((0 : Int) + 1 : Int) < (n : Int) := by omega
    go_wp2
    go_ret
    obtain rfl := HX.out
    obtain rfl := HY.out
    rw [E.out]
    exact ⟨rfl, F', by simpa [SnapS.row, hl] using HB5.out, W5.out, M5.out, U5.out, HN3.out, HN3'.out⟩
  · have hlt' : (n : Int) ≤ (0 : Int) + 1 := by omega
    by_cases hxy : (x == y) = true
    · have hq : (x == y) = true := hxy
      have E := Lib.hid (show SnapS.fin (⟨⟨ct, cs, src, del⟩, who, start, 0, pass, same, words, 0⟩ : SnapS) n sl x (x == y) = ⟨⟨ct, cs, src, del⟩, who, start, 0, pass + 1, (x == y), words.set sl x, 1⟩ from by unfold SnapS.fin; rw [if_neg hlt]; simp [hq])
      clear hlt
      go_wp2
      go_ret
      obtain rfl := HX.out
      obtain rfl := HY.out
      rw [E.out]
      exact ⟨rfl, F', by simpa [SnapS.row, hl] using blk_set (blk_set (blk_set HB5.out 6 _) 7 _) 10 _, blk_other (blk_other (blk_other W5.out hne' _) hne' _) hne' _, ((M5.out.set HN3.out _).set HN3.out _).set HN3.out _, (((U5.out.trans (Upd.set _ _ _ _ _ (by simp))).trans (Upd.set _ _ _ _ _ (by simp))).trans (Upd.set _ _ _ _ _ (by simp))), HN3.out, HN3'.out⟩
    · have hq : (x == y) = false := by simpa using hxy
      have E := Lib.hid (show SnapS.fin (⟨⟨ct, cs, src, del⟩, who, start, 0, pass, same, words, 0⟩ : SnapS) n sl x (x == y) = ⟨⟨ct, cs, src, del⟩, who, start, 0, pass + 1, (x == y), words.set sl x, 0⟩ from by unfold SnapS.fin; rw [if_neg hlt]; simp [hq])
      clear hlt
      go_wp2
      go_ret
      obtain rfl := HX.out
      obtain rfl := HY.out
      rw [E.out]
      exact ⟨rfl, F', by simpa [SnapS.row, hl] using blk_set (blk_set HB5.out 6 _) 7 _, blk_other (blk_other W5.out hne' _) hne' _, (M5.out.set HN3.out _).set HN3.out _, ((U5.out.trans (Upd.set _ _ _ _ _ (by simp))).trans (Upd.set _ _ _ _ _ (by simp))), HN3.out, HN3'.out⟩

set_option maxHeartbeats 2000000 in
theorem snap_c (w : World) (tb wb p n : Nat) (F : List Nat) (m : MemS) (ct cs who start sl : Nat) (src del : Int) (words : List Int) (k pass : Nat) (hm : IsMem w p F m) (htb : tb ∉ F) (hwb : wb ∉ F) (hne : tb ≠ wb)
    (hf : Fits ⟨ct, cs, src, del⟩ n m) (hwho : who < ct) (hlog : m.log.length < 1099511627776) (hwl : words.length = n) (hst : start < n) (hsl : sl = (start + k) % n) (hk0 : 0 < k) (hk : k < n)
    (hb : Blk w tb #[.int .i64 ct, .int .i64 cs, .int .i64 src, .int .i64 del, .int .i64 who, .int .i64 start, .int .i64 k, .int .i64 pass, .bool false, .slice (some ⟨wb, 0, none⟩) n n, .int .i64 0] 110) (hw : Blk w wb (wrow words) 43) (hpa : pass < 1099511627776) :
    Calls Try.prog 38 #[.pointer (some ⟨tb, 0, none⟩), .pointer (some ⟨p, 0, none⟩)] w fun e w' => e = .returned (.int .i64 (SnapS.fin (⟨⟨ct, cs, src, del⟩, who, start, k, pass, false, words, 0⟩ : SnapS) n sl (m.at sl) false).phase) ∧
      ∃ F', Blk w' tb ((SnapS.fin (⟨⟨ct, cs, src, del⟩, who, start, k, pass, false, words, 0⟩ : SnapS) n sl (m.at sl) false).row wb) 110 ∧ Blk w' wb (wrow (SnapS.fin (⟨⟨ct, cs, src, del⟩, who, start, k, pass, false, words, 0⟩ : SnapS) n sl (m.at sl) false).words) 43 ∧ IsMem w' p F' (m.ld who sl) ∧ Upd (tb :: wb :: F) (tb :: wb :: F') w w' ∧ tb ∉ F' ∧ wb ∉ F' := by
  have h1 := hf.t1
  have h2 := hf.s1
  have h3 := hf.le
  have h4 := hf.pos
  simp only at h1 h2
  have hsn : sl < n := by rw [hsl]; exact Nat.mod_lt _ (by omega)
  have hs0 : (0 : Int) ≤ (sl : Int) := Int.natCast_nonneg _
  have hs1 : (sl : Int) < (n : Int) := by omega
  have hn0 : ¬ n = 0 := by omega
  have ha1 : IntKind.i64.wrap ((start : Int) + (k : Int)) = (start : Int) + (k : Int) := w64 (by omega) (by omega)
  have hE : ((start : Int) + (k : Int)) % (n : Int) = (sl : Int) := by rw [hsl]; simp
  have ha2 : ((start : Int) + (k : Int)).tmod (n : Int) = (sl : Int) := by rw [Int.tmod_eq_emod_of_nonneg (by omega)]; exact hE
  have ha3 : IntKind.i64.wrap (sl : Int) = (sl : Int) := w64 (by omega) (by omega)
  have hy : words.getD sl 0 = words.getD sl 0 := rfl
  have hk1 : ((k : Int) == 0) = false := by simpa using (by omega : k ≠ 0)
  have B0 : Blk w tb #[.int .i64 ct, .int .i64 cs, .int .i64 src, .int .i64 del, .int .i64 who, .int .i64 start, .int .i64 k, .int .i64 pass, .bool false, .slice (some ⟨wb, 0, none⟩) n n, .int .i64 0] 110 := hb
  have W0 : Blk w wb (wrow words) 43 := hw
  have M0 : IsMem w p F m := hm
  have U0 : Upd (tb :: wb :: F) (tb :: wb :: F) w w := Upd.refl _ _
  have hn1 : n < 9223372036854775808 := by omega
  have hbt := blk_lt hb
  have hwt := blk_lt hw
  have HN := Lib.hid hf.hn
  have HLEN := Lib.hid hf.len
  have HT := Lib.hid htb
  have HW := Lib.hid hwb
  have HWL := Lib.hid hwl
  have HSL := Lib.hid hsl
  have hne' : wb ≠ tb := Ne.symm hne
  obtain ⟨hrc, hrf⟩ := blk_S hb
  clear hm htb hwb hf hwl hsl hb hw hy
  have HB0 := Lib.hid B0
  have HW0 := Lib.hid W0
  have HM0 := Lib.hid M0
  have HU0 := Lib.hid U0
  clear B0 W0 M0 U0
  go_enter Try.func38, Try.ntmps38
  go_wp2_with fail
  clear hrc hrf
  go_region_held3 (fun w' => (∀ o, w'.cell? ⟨tb, o, none⟩ = (#[.int .i64 ct, .int .i64 cs, .int .i64 src, .int .i64 del, .int .i64 who, .int .i64 start, .int .i64 k, .int .i64 pass, .bool false, .slice (some ⟨wb, 0, none⟩) n n, .int .i64 0] : Array Value)[o]?) ∧ (∀ o, w'.frozen? ⟨tb, o, none⟩ = false))
    (first | exact blk_S (blk_drew HB0.out) | exact blk_S B1)
    ((go_at_call 26; refine (lay_all _ ct cs src del h1 h2 n HN.out).mono ?_; rintro e w1 ⟨rfl, q1⟩; have B1 := blk_frm (blk_drew HB0.out) q1 (by simp)))
  have HB1 := Lib.hid B1
  have HQ1 := Lib.hid q1
  clear B1 q1
  go_wp2_with fail
  go_region_held3 (fun w' => (∀ o, w'.cell? ⟨tb, o, none⟩ = (#[.int .i64 ct, .int .i64 cs, .int .i64 src, .int .i64 del, .int .i64 who, .int .i64 start, .int .i64 k, .int .i64 pass, .bool false, .slice (some ⟨wb, 0, none⟩) n n, .int .i64 0] : Array Value)[o]?) ∧ (∀ o, w'.frozen? ⟨tb, o, none⟩ = false))
    (first | exact blk_S (blk_drew HB1.out) | exact blk_S B2 | exact blk_S B3)
    (first | (go_at_call 30; refine (lay_word _ ct cs src del sl).mono ?_; rintro e w2 ⟨rfl, q2⟩; have B2 := blk_frm (blk_drew HB1.out) q2 (by simp)) | (go_at_call 63; refine (mem_load _ p F m who sl (((HM0.out.drew.ext HQ1.out).drew).ext q2) (by have := HLEN.out; omega) hlog).mono ?_; rintro e w3 ⟨rfl, F', M3, u3⟩; have B3 := blk_frm B2 u3.toFrm HT.out))
  have W3 : Blk w3 wb (wrow words) 43 := blk_frm (blk_frm (blk_drew (blk_frm (blk_drew HW0.out) HQ1.out (by simp))) q2 (by simp)) u3.toFrm HW.out
  have U3 : Upd (tb :: wb :: F) (tb :: wb :: F') w w3 := ((((HU0.out.trans (Upd.drew _ _)).trans (Upd.of_frm _ HQ1.out)).trans (Upd.drew _ _)).trans (Upd.of_frm _ q2)).trans ((u3.more wb).more tb)
  have N3 : tb ∉ F' := u3.not (Nat.lt_of_lt_of_le (blk_lt HB1.out) q2.size) HT.out
  have N3' : wb ∉ F' := u3.not (Nat.lt_of_lt_of_le (blk_lt (blk_frm (blk_drew HW0.out) HQ1.out (by simp))) q2.size) HW.out
  obtain ⟨hrc, hrf⟩ := blk_S B3
  have cw : w3.cell? ⟨wb, sl, none⟩ = some (.int .u64 (words.getD sl 0)) := by rw [blk_cell W3, wrow_get words sl (by rw [HWL.out]; omega)]
  have fw : w3.frozen? ⟨wb, sl, none⟩ = false := blk_free W3 sl
  have HB3 := Lib.hid B3
  have HM3 := Lib.hid M3
  have HW3 := Lib.hid W3
  have HU3 := Lib.hid U3
  have HN3 := Lib.hid N3
  have HN3' := Lib.hid N3'
  clear B3 B2 M3 W3 U3 N3 N3' u3 q2 HB1 HQ1 HM0 HU0 HB0 HW0
  generalize hY : words.getD sl 0 = y at *
  have HY := Lib.hid hY
  clear hY
  generalize hX : m.at sl = x at *
  have HX := Lib.hid hX
  clear hX
  have B4 : Blk (((w3.setCell ⟨tb, 8, none⟩ (.bool false)).setCell ⟨wb, sl, none⟩ (.int .u64 x)).setCell ⟨tb, 6, none⟩ (.int .i64 ((k : Int) + 1))) tb #[.int .i64 ct, .int .i64 cs, .int .i64 src, .int .i64 del, .int .i64 who, .int .i64 start, .int .i64 ((k : Int) + 1), .int .i64 pass, .bool false, .slice (some ⟨wb, 0, none⟩) n n, .int .i64 0] 110 := by simpa using blk_set (blk_other (blk_set HB3.out 8 (.bool false)) hne _) 6 (.int .i64 ((k : Int) + 1))
  have W4 : Blk (((w3.setCell ⟨tb, 8, none⟩ (.bool false)).setCell ⟨wb, sl, none⟩ (.int .u64 x)).setCell ⟨tb, 6, none⟩ (.int .i64 ((k : Int) + 1))) wb (wrow (words.set sl x)) 43 := by
    have := blk_other (blk_set (blk_other (a := ⟨tb, 8, none⟩) HW3.out hne' (.bool false)) sl (.int .u64 x)) (a := ⟨tb, 6, none⟩) hne' (.int .i64 ((k : Int) + 1))
    rw [wrow_set] at this; exact this
  have M4 : IsMem (((w3.setCell ⟨tb, 8, none⟩ (.bool false)).setCell ⟨wb, sl, none⟩ (.int .u64 x)).setCell ⟨tb, 6, none⟩ (.int .i64 ((k : Int) + 1))) p F' (m.put who 0 sl x true) := ((HM3.out.set HN3.out _).set HN3'.out _).set HN3.out _
  have U4 : Upd (tb :: wb :: F) (tb :: wb :: F') w (((w3.setCell ⟨tb, 8, none⟩ (.bool false)).setCell ⟨wb, sl, none⟩ (.int .u64 x)).setCell ⟨tb, 6, none⟩ (.int .i64 ((k : Int) + 1))) := ((HU3.out.trans (Upd.set _ _ _ _ _ (by simp))).trans (Upd.set _ _ _ _ _ (by simp))).trans (Upd.set _ _ _ _ _ (by simp))
  have HB4 := Lib.hid B4
  have HM4 := Lib.hid M4
  have HW4 := Lib.hid W4
  have HU4 := Lib.hid U4
  clear B4 M4 W4 U4 HB3 HM3 HW3 HU3
  go_wp2_with fail
  generalize (((w3.setCell ⟨tb, 8, none⟩ (.bool false)).setCell ⟨wb, sl, none⟩ (.int .u64 x)).setCell ⟨tb, 6, none⟩ (.int .i64 ((k : Int) + 1))) = W' at *
  clear hrc hrf cw fw
  go_region_held3 (fun w' => (∀ o, w'.cell? ⟨tb, o, none⟩ = (#[.int .i64 ct, .int .i64 cs, .int .i64 src, .int .i64 del, .int .i64 who, .int .i64 start, .int .i64 ((k : Int) + 1), .int .i64 pass, .bool false, .slice (some ⟨wb, 0, none⟩) n n, .int .i64 0] : Array Value)[o]?) ∧ (∀ o, w'.frozen? ⟨tb, o, none⟩ = false))
    (first | exact blk_S (blk_drew HB4.out) | exact blk_S B5)
    ((go_at_call 26; refine (lay_all _ ct cs src del h1 h2 n HN.out).mono ?_; rintro e w5 ⟨rfl, q5⟩; have B5 := blk_frm (blk_drew HB4.out) q5 (by simp)))
  obtain ⟨hrc, hrf⟩ := blk_S B5
  have HB5 := Lib.hid B5
  have M5 := Lib.hid ((HM4.out.drew).ext q5)
  have W5 := Lib.hid (blk_frm (blk_drew HW4.out) q5 (by simp))
  have U5 := Lib.hid ((HU4.out.trans (Upd.drew _ _)).trans (Upd.of_frm _ q5))
  clear B5 q5 HB4 HM4 HW4 HU4
  have hl : (words.set sl x).length = n := by simp [HWL.out]
  by_cases hlt : k + 1 < n
  · have E := Lib.hid (show SnapS.fin (⟨⟨ct, cs, src, del⟩, who, start, k, pass, false, words, 0⟩ : SnapS) n sl x false = ⟨⟨ct, cs, src, del⟩, who, start, k + 1, pass, false, words.set sl x, 0⟩ from if_pos hlt)
    have hlt' : ((k : Int) + 1 : Int) < (n : Int) := by omega
    go_wp2
    go_ret
    obtain rfl := HX.out
    obtain rfl := HY.out
    rw [E.out]
    exact ⟨rfl, F', by simpa [SnapS.row, hl] using HB5.out, W5.out, M5.out, U5.out, HN3.out, HN3'.out⟩
  · have hlt' : (n : Int) ≤ (k : Int) + 1 := by omega
    have E := Lib.hid (show SnapS.fin (⟨⟨ct, cs, src, del⟩, who, start, k, pass, false, words, 0⟩ : SnapS) n sl x false = ⟨⟨ct, cs, src, del⟩, who, start, 0, pass + 1, false, words.set sl x, 0⟩ from by unfold SnapS.fin; rw [if_neg hlt]; simp)
    clear hlt
    go_wp2
    go_ret
    obtain rfl := HX.out
    obtain rfl := HY.out
    rw [E.out]
    exact ⟨rfl, F', by simpa [SnapS.row, hl] using blk_set (blk_set HB5.out 6 _) 7 _, blk_other (blk_other W5.out hne' _) hne' _, (M5.out.set HN3.out _).set HN3.out _, ((U5.out.trans (Upd.set _ _ _ _ _ (by simp))).trans (Upd.set _ _ _ _ _ (by simp))), HN3.out, HN3'.out⟩

set_option maxHeartbeats 2000000 in
theorem snap_d (w : World) (tb wb p n : Nat) (F : List Nat) (m : MemS) (ct cs who start sl : Nat) (src del : Int) (words : List Int) (k pass : Nat) (hm : IsMem w p F m) (htb : tb ∉ F) (hwb : wb ∉ F) (hne : tb ≠ wb)
    (hf : Fits ⟨ct, cs, src, del⟩ n m) (hwho : who < ct) (hlog : m.log.length < 1099511627776) (hwl : words.length = n) (hst : start < n) (hsl : sl = (start + k) % n) (hk0 : 0 < k) (hk : k < n)
    (hb : Blk w tb #[.int .i64 ct, .int .i64 cs, .int .i64 src, .int .i64 del, .int .i64 who, .int .i64 start, .int .i64 k, .int .i64 pass, .bool true, .slice (some ⟨wb, 0, none⟩) n n, .int .i64 0] 110) (hw : Blk w wb (wrow words) 43) (hpa : pass < 1099511627776) :
    Calls Try.prog 38 #[.pointer (some ⟨tb, 0, none⟩), .pointer (some ⟨p, 0, none⟩)] w fun e w' => e = .returned (.int .i64 (SnapS.fin (⟨⟨ct, cs, src, del⟩, who, start, k, pass, true, words, 0⟩ : SnapS) n sl (m.at sl) (m.at sl == words.getD sl 0)).phase) ∧
      ∃ F', Blk w' tb ((SnapS.fin (⟨⟨ct, cs, src, del⟩, who, start, k, pass, true, words, 0⟩ : SnapS) n sl (m.at sl) (m.at sl == words.getD sl 0)).row wb) 110 ∧ Blk w' wb (wrow (SnapS.fin (⟨⟨ct, cs, src, del⟩, who, start, k, pass, true, words, 0⟩ : SnapS) n sl (m.at sl) (m.at sl == words.getD sl 0)).words) 43 ∧ IsMem w' p F' (m.ld who sl) ∧ Upd (tb :: wb :: F) (tb :: wb :: F') w w' ∧ tb ∉ F' ∧ wb ∉ F' := by
  have h1 := hf.t1
  have h2 := hf.s1
  have h3 := hf.le
  have h4 := hf.pos
  simp only at h1 h2
  have hsn : sl < n := by rw [hsl]; exact Nat.mod_lt _ (by omega)
  have hs0 : (0 : Int) ≤ (sl : Int) := Int.natCast_nonneg _
  have hs1 : (sl : Int) < (n : Int) := by omega
  have hn0 : ¬ n = 0 := by omega
  have ha1 : IntKind.i64.wrap ((start : Int) + (k : Int)) = (start : Int) + (k : Int) := w64 (by omega) (by omega)
  have hE : ((start : Int) + (k : Int)) % (n : Int) = (sl : Int) := by rw [hsl]; simp
  have ha2 : ((start : Int) + (k : Int)).tmod (n : Int) = (sl : Int) := by rw [Int.tmod_eq_emod_of_nonneg (by omega)]; exact hE
  have ha3 : IntKind.i64.wrap (sl : Int) = (sl : Int) := w64 (by omega) (by omega)
  have hy : words.getD sl 0 = words.getD sl 0 := rfl
  have hk1 : ((k : Int) == 0) = false := by simpa using (by omega : k ≠ 0)
  have B0 : Blk w tb #[.int .i64 ct, .int .i64 cs, .int .i64 src, .int .i64 del, .int .i64 who, .int .i64 start, .int .i64 k, .int .i64 pass, .bool true, .slice (some ⟨wb, 0, none⟩) n n, .int .i64 0] 110 := hb
  have W0 : Blk w wb (wrow words) 43 := hw
  have M0 : IsMem w p F m := hm
  have U0 : Upd (tb :: wb :: F) (tb :: wb :: F) w w := Upd.refl _ _
  have hn1 : n < 9223372036854775808 := by omega
  have hbt := blk_lt hb
  have hwt := blk_lt hw
  have HN := Lib.hid hf.hn
  have HLEN := Lib.hid hf.len
  have HT := Lib.hid htb
  have HW := Lib.hid hwb
  have HWL := Lib.hid hwl
  have HSL := Lib.hid hsl
  have hne' : wb ≠ tb := Ne.symm hne
  obtain ⟨hrc, hrf⟩ := blk_S hb
  clear hm htb hwb hf hwl hsl hb hw hy
  have HB0 := Lib.hid B0
  have HW0 := Lib.hid W0
  have HM0 := Lib.hid M0
  have HU0 := Lib.hid U0
  clear B0 W0 M0 U0
  go_enter Try.func38, Try.ntmps38
  go_wp2_with fail
  clear hrc hrf
  go_region_held3 (fun w' => (∀ o, w'.cell? ⟨tb, o, none⟩ = (#[.int .i64 ct, .int .i64 cs, .int .i64 src, .int .i64 del, .int .i64 who, .int .i64 start, .int .i64 k, .int .i64 pass, .bool true, .slice (some ⟨wb, 0, none⟩) n n, .int .i64 0] : Array Value)[o]?) ∧ (∀ o, w'.frozen? ⟨tb, o, none⟩ = false))
    (first | exact blk_S (blk_drew HB0.out) | exact blk_S B1)
    ((go_at_call 26; refine (lay_all _ ct cs src del h1 h2 n HN.out).mono ?_; rintro e w1 ⟨rfl, q1⟩; have B1 := blk_frm (blk_drew HB0.out) q1 (by simp)))
  have HB1 := Lib.hid B1
  have HQ1 := Lib.hid q1
  clear B1 q1
  go_wp2_with fail
  go_region_held3 (fun w' => (∀ o, w'.cell? ⟨tb, o, none⟩ = (#[.int .i64 ct, .int .i64 cs, .int .i64 src, .int .i64 del, .int .i64 who, .int .i64 start, .int .i64 k, .int .i64 pass, .bool true, .slice (some ⟨wb, 0, none⟩) n n, .int .i64 0] : Array Value)[o]?) ∧ (∀ o, w'.frozen? ⟨tb, o, none⟩ = false))
    (first | exact blk_S (blk_drew HB1.out) | exact blk_S B2 | exact blk_S B3)
    (first | (go_at_call 30; refine (lay_word _ ct cs src del sl).mono ?_; rintro e w2 ⟨rfl, q2⟩; have B2 := blk_frm (blk_drew HB1.out) q2 (by simp)) | (go_at_call 63; refine (mem_load _ p F m who sl (((HM0.out.drew.ext HQ1.out).drew).ext q2) (by have := HLEN.out; omega) hlog).mono ?_; rintro e w3 ⟨rfl, F', M3, u3⟩; have B3 := blk_frm B2 u3.toFrm HT.out))
  have W3 : Blk w3 wb (wrow words) 43 := blk_frm (blk_frm (blk_drew (blk_frm (blk_drew HW0.out) HQ1.out (by simp))) q2 (by simp)) u3.toFrm HW.out
  have U3 : Upd (tb :: wb :: F) (tb :: wb :: F') w w3 := ((((HU0.out.trans (Upd.drew _ _)).trans (Upd.of_frm _ HQ1.out)).trans (Upd.drew _ _)).trans (Upd.of_frm _ q2)).trans ((u3.more wb).more tb)
  have N3 : tb ∉ F' := u3.not (Nat.lt_of_lt_of_le (blk_lt HB1.out) q2.size) HT.out
  have N3' : wb ∉ F' := u3.not (Nat.lt_of_lt_of_le (blk_lt (blk_frm (blk_drew HW0.out) HQ1.out (by simp))) q2.size) HW.out
  obtain ⟨hrc, hrf⟩ := blk_S B3
  have cw : w3.cell? ⟨wb, sl, none⟩ = some (.int .u64 (words.getD sl 0)) := by rw [blk_cell W3, wrow_get words sl (by rw [HWL.out]; omega)]
  have fw : w3.frozen? ⟨wb, sl, none⟩ = false := blk_free W3 sl
  have HB3 := Lib.hid B3
  have HM3 := Lib.hid M3
  have HW3 := Lib.hid W3
  have HU3 := Lib.hid U3
  have HN3 := Lib.hid N3
  have HN3' := Lib.hid N3'
  clear B3 B2 M3 W3 U3 N3 N3' u3 q2 HB1 HQ1 HM0 HU0 HB0 HW0
  generalize hY : words.getD sl 0 = y at *
  have HY := Lib.hid hY
  clear hY
  generalize hX : m.at sl = x at *
  have HX := Lib.hid hX
  clear hX
  have B4 : Blk (((w3.setCell ⟨tb, 8, none⟩ (.bool (x == y))).setCell ⟨wb, sl, none⟩ (.int .u64 x)).setCell ⟨tb, 6, none⟩ (.int .i64 ((k : Int) + 1))) tb #[.int .i64 ct, .int .i64 cs, .int .i64 src, .int .i64 del, .int .i64 who, .int .i64 start, .int .i64 ((k : Int) + 1), .int .i64 pass, .bool (x == y), .slice (some ⟨wb, 0, none⟩) n n, .int .i64 0] 110 := by simpa using blk_set (blk_other (blk_set HB3.out 8 (.bool (x == y))) hne _) 6 (.int .i64 ((k : Int) + 1))
  have W4 : Blk (((w3.setCell ⟨tb, 8, none⟩ (.bool (x == y))).setCell ⟨wb, sl, none⟩ (.int .u64 x)).setCell ⟨tb, 6, none⟩ (.int .i64 ((k : Int) + 1))) wb (wrow (words.set sl x)) 43 := by
    have := blk_other (blk_set (blk_other (a := ⟨tb, 8, none⟩) HW3.out hne' (.bool (x == y))) sl (.int .u64 x)) (a := ⟨tb, 6, none⟩) hne' (.int .i64 ((k : Int) + 1))
    rw [wrow_set] at this; exact this
  have M4 : IsMem (((w3.setCell ⟨tb, 8, none⟩ (.bool (x == y))).setCell ⟨wb, sl, none⟩ (.int .u64 x)).setCell ⟨tb, 6, none⟩ (.int .i64 ((k : Int) + 1))) p F' (m.put who 0 sl x true) := ((HM3.out.set HN3.out _).set HN3'.out _).set HN3.out _
  have U4 : Upd (tb :: wb :: F) (tb :: wb :: F') w (((w3.setCell ⟨tb, 8, none⟩ (.bool (x == y))).setCell ⟨wb, sl, none⟩ (.int .u64 x)).setCell ⟨tb, 6, none⟩ (.int .i64 ((k : Int) + 1))) := ((HU3.out.trans (Upd.set _ _ _ _ _ (by simp))).trans (Upd.set _ _ _ _ _ (by simp))).trans (Upd.set _ _ _ _ _ (by simp))
  have HB4 := Lib.hid B4
  have HM4 := Lib.hid M4
  have HW4 := Lib.hid W4
  have HU4 := Lib.hid U4
  clear B4 M4 W4 U4 HB3 HM3 HW3 HU3
  go_wp2_with fail
  generalize (((w3.setCell ⟨tb, 8, none⟩ (.bool (x == y))).setCell ⟨wb, sl, none⟩ (.int .u64 x)).setCell ⟨tb, 6, none⟩ (.int .i64 ((k : Int) + 1))) = W' at *
  clear hrc hrf cw fw
  go_region_held3 (fun w' => (∀ o, w'.cell? ⟨tb, o, none⟩ = (#[.int .i64 ct, .int .i64 cs, .int .i64 src, .int .i64 del, .int .i64 who, .int .i64 start, .int .i64 ((k : Int) + 1), .int .i64 pass, .bool (x == y), .slice (some ⟨wb, 0, none⟩) n n, .int .i64 0] : Array Value)[o]?) ∧ (∀ o, w'.frozen? ⟨tb, o, none⟩ = false))
    (first | exact blk_S (blk_drew HB4.out) | exact blk_S B5)
    ((go_at_call 26; refine (lay_all _ ct cs src del h1 h2 n HN.out).mono ?_; rintro e w5 ⟨rfl, q5⟩; have B5 := blk_frm (blk_drew HB4.out) q5 (by simp)))
  obtain ⟨hrc, hrf⟩ := blk_S B5
  have HB5 := Lib.hid B5
  have M5 := Lib.hid ((HM4.out.drew).ext q5)
  have W5 := Lib.hid (blk_frm (blk_drew HW4.out) q5 (by simp))
  have U5 := Lib.hid ((HU4.out.trans (Upd.drew _ _)).trans (Upd.of_frm _ q5))
  clear B5 q5 HB4 HM4 HW4 HU4
  have hl : (words.set sl x).length = n := by simp [HWL.out]
  by_cases hlt : k + 1 < n
  · have E := Lib.hid (show SnapS.fin (⟨⟨ct, cs, src, del⟩, who, start, k, pass, true, words, 0⟩ : SnapS) n sl x (x == y) = ⟨⟨ct, cs, src, del⟩, who, start, k + 1, pass, (x == y), words.set sl x, 0⟩ from if_pos hlt)
    have hlt' : ((k : Int) + 1 : Int) < (n : Int) := by omega
    go_wp2
    go_ret
    obtain rfl := HX.out
    obtain rfl := HY.out
    rw [E.out]
    exact ⟨rfl, F', by simpa [SnapS.row, hl] using HB5.out, W5.out, M5.out, U5.out, HN3.out, HN3'.out⟩
  · have hlt' : (n : Int) ≤ (k : Int) + 1 := by omega
    by_cases hxy : (x == y) = true
    · have hq : (x == y) = true := hxy
      have E := Lib.hid (show SnapS.fin (⟨⟨ct, cs, src, del⟩, who, start, k, pass, true, words, 0⟩ : SnapS) n sl x (x == y) = ⟨⟨ct, cs, src, del⟩, who, start, 0, pass + 1, (x == y), words.set sl x, 1⟩ from by unfold SnapS.fin; rw [if_neg hlt]; simp [hq])
      clear hlt
      go_wp2
      go_ret
      obtain rfl := HX.out
      obtain rfl := HY.out
      rw [E.out]
      exact ⟨rfl, F', by simpa [SnapS.row, hl] using blk_set (blk_set (blk_set HB5.out 6 _) 7 _) 10 _, blk_other (blk_other (blk_other W5.out hne' _) hne' _) hne' _, ((M5.out.set HN3.out _).set HN3.out _).set HN3.out _, (((U5.out.trans (Upd.set _ _ _ _ _ (by simp))).trans (Upd.set _ _ _ _ _ (by simp))).trans (Upd.set _ _ _ _ _ (by simp))), HN3.out, HN3'.out⟩
    · have hq : (x == y) = false := by simpa using hxy
      have E := Lib.hid (show SnapS.fin (⟨⟨ct, cs, src, del⟩, who, start, k, pass, true, words, 0⟩ : SnapS) n sl x (x == y) = ⟨⟨ct, cs, src, del⟩, who, start, 0, pass + 1, (x == y), words.set sl x, 0⟩ from by unfold SnapS.fin; rw [if_neg hlt]; simp [hq])
      clear hlt
      go_wp2
      go_ret
      obtain rfl := HX.out
      obtain rfl := HY.out
      rw [E.out]
      exact ⟨rfl, F', by simpa [SnapS.row, hl] using blk_set (blk_set HB5.out 6 _) 7 _, blk_other (blk_other W5.out hne' _) hne' _, (M5.out.set HN3.out _).set HN3.out _, ((U5.out.trans (Upd.set _ _ _ _ _ (by simp))).trans (Upd.set _ _ _ _ _ (by simp))), HN3.out, HN3'.out⟩

end Go.Proofs.Ytkcimjcmlibgpaa
