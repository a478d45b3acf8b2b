/-
  Package take: the last steps. Conditions: the cells fit the layout; the place and the thread are there; the log is short.
-/
import Derived.Test.YtkcimjcmlibgpaaTake
namespace Go.Proofs.Ytkcimjcmlibgpaa
open Go.RowKit

set_option maxHeartbeats 1000000 in
theorem take_step3_same (w : World) (tb p n : Nat) (F : List Nat) (m : MemS) (ct cs who slot : Nat) (src del value : Int) (hm : IsMem w p F m) (htb : tb ∉ F) (hf : Fits ⟨ct, cs, src, del⟩ n m) (hwho : who < ct) (hlog : m.log.length < 1099511627776) (hslot : slot < n) (hx : U64 (m.at slot))
    (hb : Blk w tb #[.int .i64 ct, .int .i64 cs, .int .i64 src, .int .i64 del, .int .i64 who, .int .i64 slot, .int .u64 (m.at slot), .int .i64 3, .bool false, .int .u64 value, .int .i64 0] 113) :
    Calls Try.prog 41 #[.pointer (some ⟨tb, 0, none⟩), .pointer (some ⟨p, 0, none⟩)] w fun e w' => e = .returned (.int .i64 0) ∧
      ∃ F', Blk w' tb #[.int .i64 ct, .int .i64 cs, .int .i64 src, .int .i64 del, .int .i64 who, .int .i64 slot, .int .u64 (m.at slot), .int .i64 4, .bool false, .int .u64 value, .int .i64 0] 113 ∧ IsMem w' p F' (m.put who 2 slot ((unpk (m.at slot)).taken.pack) true) ∧ Upd (tb :: F) (tb :: F') w w' ∧ tb ∉ F' := by
  have HX := Lib.hid hx
  clear hx
  have h1 := hf.t1
  have h2 := hf.s1
  have h3 := hf.le
  have HN := Lib.hid hf.hn
  have HLEN := Lib.hid hf.len
  simp only at h1 h2
  have HM := Lib.hid hm
  have HT := Lib.hid htb
  have HB := Lib.hid hb
  have hbt := blk_lt hb
  obtain ⟨hrc, hrf⟩ := blk_S hb
  clear hm htb hb hf
  go_enter Try.func41, Try.ntmps41
  go_wp2_with fail
  go_region_held3 (fun w' => (∀ o, o ≠ 8 → w'.cell? ⟨tb, o, none⟩ = (#[.int .i64 ct, .int .i64 cs, .int .i64 src, .int .i64 del, .int .i64 who, .int .i64 slot, .int .u64 (m.at slot), .int .i64 3, .bool false, .int .u64 value, .int .i64 0] : Array Value)[o]?) ∧ (∀ o, w'.frozen? ⟨tb, o, none⟩ = false))
    (first | exact fld_of (blk_drew HB.out) 8 | exact fld_of B1 8 | exact fld_of B2 8 | exact fld_of B3 8 | exact fld_of B4 8 | exact fld_of B5 8 | exact fld_set B5 8 _)
    (first | (go_at_call 30; refine (lay_word _ ct cs src del slot).mono ?_; rintro e w1 ⟨rfl, q1⟩; have B1 := blk_frm (blk_drew HB.out) q1 (by simp)) | (go_at_call 29; refine (word_unpack _ (m.at slot) HX.out.1 HX.out.2).mono ?_; rintro e w2 ⟨rfl, q2⟩; have B2 := blk_frm B1 q2 (by simp)) | (go_at_call 32; refine (word_taken _ (unpk (m.at slot)).st (unpk (m.at slot)).en (unpk (m.at slot)).gen (unpk (m.at slot)).lo (unpk (m.at slot)).hi).mono ?_; rintro e w3 ⟨rfl, q3⟩; have B3 := blk_frm B2 q3 (by simp)) | (go_at_call 33; refine (word_pack _ (unpk (m.at slot)).taken (unpk_taken_ok (m.at slot))).mono ?_; rintro e w4 ⟨rfl, q4⟩; have B4 := blk_frm B3 q4 (by simp)) | (go_at_call 65; refine (mem_swapYes _ p F m who ((unpk (m.at slot)).taken.pack) slot ((((HM.out.drew.ext q1).ext q2).ext q3).ext q4) (by have := HLEN.out; omega) hlog (pack_u64 _ (unpk_taken_ok _))).mono ?_; rintro e w5 ⟨rfl, F', M5, u5⟩; have B5 := blk_frm B4 u5.toFrm HT.out; have cx := blk_cell B5 8))
  clear hrc hrf
  obtain ⟨hrc, hrf⟩ := blk_S B5
  have HBn := Lib.hid B5
  have HMn := Lib.hid M5
  have HUn := Lib.hid u5
  have HQ1 := Lib.hid q1
  have HQ2 := Lib.hid q2
  have HQ3 := Lib.hid q3
  have HQ4 := Lib.hid q4
  clear B1 B2 B3 B4 B5 q1 q2 q3 q4 M5 u5 cx
  go_wp2
  go_ret
  have hn' : tb ∉ F' := HUn.out.not (Nat.lt_of_lt_of_le (Nat.lt_of_lt_of_le (Nat.lt_of_lt_of_le (Nat.lt_of_lt_of_le hbt HQ1.out.size) HQ2.out.size) HQ3.out.size) HQ4.out.size) HT.out
  refine ⟨rfl, F', ?_, ?_, ?_, hn'⟩
  · simpa using (blk_set (blk_set HBn.out 8 _) 7 _)
  · exact ((HMn.out.set hn' _).set hn' _)
  · exact (((((((Upd.drew (tb :: F) w).trans (Upd.of_frm _ HQ1.out)).trans (Upd.of_frm _ HQ2.out)).trans (Upd.of_frm _ HQ3.out)).trans (Upd.of_frm _ HQ4.out)).trans (HUn.out.more tb)).trans (Upd.set _ tb 8 _ _ (by simp))).trans (Upd.set _ tb 7 _ _ (by simp))

set_option maxHeartbeats 1000000 in
theorem take_step3_other (w : World) (tb p n : Nat) (F : List Nat) (m : MemS) (ct cs who slot : Nat) (src del word value : Int) (hm : IsMem w p F m) (htb : tb ∉ F) (hf : Fits ⟨ct, cs, src, del⟩ n m) (hwho : who < ct) (hlog : m.log.length < 1099511627776) (hslot : slot < n) (hx : U64 word) (hd : m.at slot ≠ word)
    (hb : Blk w tb #[.int .i64 ct, .int .i64 cs, .int .i64 src, .int .i64 del, .int .i64 who, .int .i64 slot, .int .u64 word, .int .i64 3, .bool false, .int .u64 value, .int .i64 0] 113) :
    Calls Try.prog 41 #[.pointer (some ⟨tb, 0, none⟩), .pointer (some ⟨p, 0, none⟩)] w fun e w' => e = .returned (.int .i64 0) ∧
      ∃ F', Blk w' tb #[.int .i64 ct, .int .i64 cs, .int .i64 src, .int .i64 del, .int .i64 who, .int .i64 slot, .int .u64 word, .int .i64 4, .bool true, .int .u64 value, .int .i64 0] 113 ∧ IsMem w' p F' (m.put who 2 slot (m.at slot) false) ∧ Upd (tb :: F) (tb :: F') w w' ∧ tb ∉ F' := by
  have HX := Lib.hid hx
  have HD := Lib.hid hd
  clear hx hd
  have h1 := hf.t1
  have h2 := hf.s1
  have h3 := hf.le
  have HN := Lib.hid hf.hn
  have HLEN := Lib.hid hf.len
  simp only at h1 h2
  have HM := Lib.hid hm
  have HT := Lib.hid htb
  have HB := Lib.hid hb
  have hbt := blk_lt hb
  obtain ⟨hrc, hrf⟩ := blk_S hb
  clear hm htb hb hf
  go_enter Try.func41, Try.ntmps41
  go_wp2_with fail
  go_region_held3 (fun w' => (∀ o, o ≠ 8 → w'.cell? ⟨tb, o, none⟩ = (#[.int .i64 ct, .int .i64 cs, .int .i64 src, .int .i64 del, .int .i64 who, .int .i64 slot, .int .u64 word, .int .i64 3, .bool false, .int .u64 value, .int .i64 0] : Array Value)[o]?) ∧ (∀ o, w'.frozen? ⟨tb, o, none⟩ = false))
    (first | exact fld_of (blk_drew HB.out) 8 | exact fld_of B1 8 | exact fld_of B2 8 | exact fld_of B3 8 | exact fld_of B4 8 | exact fld_of B5 8 | exact fld_set B5 8 _)
    (first | (go_at_call 30; refine (lay_word _ ct cs src del slot).mono ?_; rintro e w1 ⟨rfl, q1⟩; have B1 := blk_frm (blk_drew HB.out) q1 (by simp)) | (go_at_call 29; refine (word_unpack _ word HX.out.1 HX.out.2).mono ?_; rintro e w2 ⟨rfl, q2⟩; have B2 := blk_frm B1 q2 (by simp)) | (go_at_call 32; refine (word_taken _ (unpk word).st (unpk word).en (unpk word).gen (unpk word).lo (unpk word).hi).mono ?_; rintro e w3 ⟨rfl, q3⟩; have B3 := blk_frm B2 q3 (by simp)) | (go_at_call 33; refine (word_pack _ (unpk word).taken (unpk_taken_ok word)).mono ?_; rintro e w4 ⟨rfl, q4⟩; have B4 := blk_frm B3 q4 (by simp)) | (go_at_call 65; refine (mem_swapNo _ p F m who word ((unpk word).taken.pack) slot ((((HM.out.drew.ext q1).ext q2).ext q3).ext q4) (by have := HLEN.out; omega) hlog HD.out).mono ?_; rintro e w5 ⟨rfl, F', M5, u5⟩; have B5 := blk_frm B4 u5.toFrm HT.out; have cx := blk_cell B5 8))
  clear hrc hrf
  obtain ⟨hrc, hrf⟩ := blk_S B5
  have HBn := Lib.hid B5
  have HMn := Lib.hid M5
  have HUn := Lib.hid u5
  have HQ1 := Lib.hid q1
  have HQ2 := Lib.hid q2
  have HQ3 := Lib.hid q3
  have HQ4 := Lib.hid q4
  clear B1 B2 B3 B4 B5 q1 q2 q3 q4 M5 u5 cx
  go_wp2
  go_ret
  have hn' : tb ∉ F' := HUn.out.not (Nat.lt_of_lt_of_le (Nat.lt_of_lt_of_le (Nat.lt_of_lt_of_le (Nat.lt_of_lt_of_le hbt HQ1.out.size) HQ2.out.size) HQ3.out.size) HQ4.out.size) HT.out
  refine ⟨rfl, F', ?_, ?_, ?_, hn'⟩
  · simpa using (blk_set (blk_set HBn.out 8 _) 7 _)
  · exact ((HMn.out.set hn' _).set hn' _)
  · exact (((((((Upd.drew (tb :: F) w).trans (Upd.of_frm _ HQ1.out)).trans (Upd.of_frm _ HQ2.out)).trans (Upd.of_frm _ HQ3.out)).trans (Upd.of_frm _ HQ4.out)).trans (HUn.out.more tb)).trans (Upd.set _ tb 8 _ _ (by simp))).trans (Upd.set _ tb 7 _ _ (by simp))

set_option maxHeartbeats 1000000 in
theorem take_lost (w : World) (tb p n : Nat) (F : List Nat) (m : MemS) (ct cs who slot : Nat) (src del word value : Int) (hm : IsMem w p F m) (htb : tb ∉ F) (hf : Fits ⟨ct, cs, src, del⟩ n m) (hwho : who < ct) (hlog : m.log.length < 1099511627776) (steps : Nat)
    (hb : Blk w tb #[.int .i64 ct, .int .i64 cs, .int .i64 src, .int .i64 del, .int .i64 who, .int .i64 slot, .int .u64 word, .int .i64 steps, .bool true, .int .u64 value, .int .i64 0] 113) :
    Calls Try.prog 41 #[.pointer (some ⟨tb, 0, none⟩), .pointer (some ⟨p, 0, none⟩)] w fun e w' => e = .returned (.int .i64 2) ∧
      ∃ F', Blk w' tb #[.int .i64 ct, .int .i64 cs, .int .i64 src, .int .i64 del, .int .i64 who, .int .i64 slot, .int .u64 word, .int .i64 steps, .bool true, .int .u64 value, .int .i64 2] 113 ∧ IsMem w' p F' (m.put who 1 (2 * n + who) 0 true) ∧ Upd (tb :: F) (tb :: F') w w' ∧ tb ∉ F' := by
  have HC := Lib.hid (take_end_true w tb p n F m ct cs who slot src del word value hm htb hf hwho hlog steps hb)
  have hbt := blk_lt hb
  obtain ⟨hrc, hrf⟩ := blk_S hb
  clear hm htb hf hb
  go_enter Try.func41, Try.ntmps41
  go_wp2_with (go_at_call 64; refine HC.out.mono ?_; rintro e w1 ⟨rfl, F', B1, M1, u1, n1⟩; clear hrc hrf; obtain ⟨hrc, hrf⟩ := blk_S B1; have HB1 := Lib.hid B1; have HM1 := Lib.hid M1; have HU1 := Lib.hid u1; have HNF := Lib.hid n1; clear B1 M1 u1 n1)
  go_ret
  exact ⟨rfl, F', by simpa using HB1.out, HM1.out, HU1.out, HNF.out⟩

set_option maxHeartbeats 1000000 in
theorem take_step4 (w : World) (tb p n : Nat) (F : List Nat) (m : MemS) (ct cs who slot : Nat) (src del word value : Int) (hm : IsMem w p F m) (htb : tb ∉ F) (hf : Fits ⟨ct, cs, src, del⟩ n m) (hwho : who < ct) (hlog : m.log.length < 1099511627776) 
    (hb : Blk w tb #[.int .i64 ct, .int .i64 cs, .int .i64 src, .int .i64 del, .int .i64 who, .int .i64 slot, .int .u64 word, .int .i64 4, .bool false, .int .u64 value, .int .i64 0] 113) :
    Calls Try.prog 41 #[.pointer (some ⟨tb, 0, none⟩), .pointer (some ⟨p, 0, none⟩)] w fun e w' => e = .returned (.int .i64 1) ∧
      ∃ F', Blk w' tb #[.int .i64 ct, .int .i64 cs, .int .i64 src, .int .i64 del, .int .i64 who, .int .i64 slot, .int .u64 word, .int .i64 5, .bool false, .int .u64 value, .int .i64 1] 113 ∧ IsMem w' p F' (m.put who 1 (2 * n + who) 0 true) ∧ Upd (tb :: F) (tb :: F') w w' ∧ tb ∉ F' := by
  have HC := Lib.hid (take_end_false w tb p n F m ct cs who slot src del word value hm htb hf hwho hlog 4 hb)
  have hbt := blk_lt hb
  obtain ⟨hrc, hrf⟩ := blk_S hb
  clear hm htb hf hb
  go_enter Try.func41, Try.ntmps41
  go_wp2_with (go_at_call 64; refine HC.out.mono ?_; rintro e w1 ⟨rfl, F', B1, M1, u1, n1⟩; clear hrc hrf; obtain ⟨hrc, hrf⟩ := blk_S B1; have HB1 := Lib.hid B1; have HM1 := Lib.hid M1; have HU1 := Lib.hid u1; have HNF := Lib.hid n1; clear B1 M1 u1 n1)
  go_ret
  exact ⟨rfl, F', by simpa using (blk_set HB1.out 7 _), HM1.out.set HNF.out _, HU1.out.trans (Upd.set _ tb 7 _ _ (by simp)), HNF.out⟩

end Go.Proofs.Ytkcimjcmlibgpaa
