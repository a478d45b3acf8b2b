/-
  Package take: each step, by itself. Conditions: the cells fit the layout; the place and the thread are there; the log is short.
-/
import Derived.Test.YtkcimjcmlibgpaaUpd
namespace Go.Proofs.Ytkcimjcmlibgpaa
open Go.RowKit

structure TakeS where
  cf : Cf
  who : Nat
  slot : Nat
  word : Int
  steps : Nat
  lost : Bool
  value : Int
  phase : Int

def TakeS.row (t : TakeS) : Array Value := #[.int .i64 t.cf.t, .int .i64 t.cf.s, .int .i64 t.cf.src, .int .i64 t.cf.del, .int .i64 t.who, .int .i64 t.slot, .int .u64 t.word, .int .i64 t.steps, .bool t.lost, .int .u64 t.value, .int .i64 t.phase]

/-- What is handed to a step: the cells fit, the thread and the place are there. -/
structure TakeIn (t : TakeS) (n : Nat) (m : MemS) : Prop where
  fits : Fits t.cf n m
  who : t.who < t.cf.t
  slot : t.slot < n
  log : m.log.length < 1099511627776

set_option maxHeartbeats 1000000 in
theorem take_end_true (w : World) (tb p n : Nat) (F : List Nat) (m : MemS) (ct cs who slot : Nat) (src del word value : Int) (hm : IsMem w p F m) (htb : tb ∉ F) (hf : Fits ⟨ct, cs, src, del⟩ n m) (hwho : who < ct) (hlog : m.log.length < 1099511627776) (steps : Nat)
    (hb : Blk w tb #[.int .i64 ct, .int .i64 cs, .int .i64 src, .int .i64 del, .int .i64 who, .int .i64 slot, .int .u64 word, .int .i64 steps, .bool true, .int .u64 value, .int .i64 0] 113) :
    Calls Try.prog 64 #[.pointer (some ⟨tb, 0, none⟩), .pointer (some ⟨p, 0, none⟩)] w fun e w' => e = .returned (.tuple #[]) ∧
      ∃ F', Blk w' tb #[.int .i64 ct, .int .i64 cs, .int .i64 src, .int .i64 del, .int .i64 who, .int .i64 slot, .int .u64 word, .int .i64 steps, .bool true, .int .u64 value, .int .i64 2] 113 ∧ IsMem w' p F' (m.put who 1 (2 * n + who) 0 true) ∧ Upd (tb :: F) (tb :: F') w w' ∧ tb ∉ F' := by
  have h1 := hf.t1
  have h2 := hf.s1
  have h3 := hf.le
  have HN := Lib.hid hf.hn
  have HLEN := Lib.hid hf.len
  simp only at h1 h2
  have HM := Lib.hid hm
  have HT := Lib.hid htb
  have HB := Lib.hid hb
  have hbt := blk_lt hb
  obtain ⟨hrc, hrf⟩ := blk_S hb
  clear hm htb hb hf
  go_enter Try.func64, Try.ntmps64
  go_wp2_with fail
  go_region_held3 (fun w' => (∀ o, w'.cell? ⟨tb, o, none⟩ = (#[.int .i64 ct, .int .i64 cs, .int .i64 src, .int .i64 del, .int .i64 who, .int .i64 slot, .int .u64 word, .int .i64 steps, .bool true, .int .u64 value, .int .i64 0] : Array Value)[o]?) ∧ (∀ o, w'.frozen? ⟨tb, o, none⟩ = false))
    (first | exact blk_S (blk_drew HB.out) | exact blk_S B1 | exact blk_S B2)
    (first | (go_at_call 28; refine (lay_hazard _ ct cs src del h1 h2 who (by omega) n HN.out).mono ?_; rintro e w1 ⟨rfl, q1⟩; have B1 := blk_frm (blk_drew HB.out) q1 (by simp)) | (go_at_call 31; refine (mem_store _ p F m who 0 (2 * n + who) (HM.out.drew.ext q1) (by have := HLEN.out; omega) hlog ⟨by omega, by omega⟩).mono ?_; rintro e w2 ⟨rfl, F', M2, u2⟩; have B2 := blk_frm B1 u2.toFrm HT.out))
  clear hrc hrf
  obtain ⟨hrc, hrf⟩ := blk_S B2
  have hbt2 := blk_lt B2
  have HB2 := Lib.hid B2
  have HM2 := Lib.hid M2
  have HU2 := Lib.hid u2
  have HQ1 := Lib.hid q1
  clear B1 B2 M2 u2 q1
  go_wp2
  go_end0
  have hn' : tb ∉ F' := HU2.out.not (Nat.lt_of_lt_of_le hbt HQ1.out.size) HT.out
  refine ⟨rfl, F', ?_, ?_, ?_, hn'⟩
  · simpa using blk_set (blk_set HB2.out 10 (.int .i64 1)) 10 (.int .i64 2)
  · exact (HM2.out.set hn' _).set hn' _
  · have c := ((Upd.drew (tb :: F) w).trans (Upd.of_frm _ HQ1.out)).trans (HU2.out.more tb)
    exact (c.trans (Upd.set _ tb 10 _ _ (by simp))).trans (Upd.set _ tb 10 _ _ (by simp))

set_option maxHeartbeats 1000000 in
theorem take_end_false (w : World) (tb p n : Nat) (F : List Nat) (m : MemS) (ct cs who slot : Nat) (src del word value : Int) (hm : IsMem w p F m) (htb : tb ∉ F) (hf : Fits ⟨ct, cs, src, del⟩ n m) (hwho : who < ct) (hlog : m.log.length < 1099511627776) (steps : Nat)
    (hb : Blk w tb #[.int .i64 ct, .int .i64 cs, .int .i64 src, .int .i64 del, .int .i64 who, .int .i64 slot, .int .u64 word, .int .i64 steps, .bool false, .int .u64 value, .int .i64 0] 113) :
    Calls Try.prog 64 #[.pointer (some ⟨tb, 0, none⟩), .pointer (some ⟨p, 0, none⟩)] w fun e w' => e = .returned (.tuple #[]) ∧
      ∃ F', Blk w' tb #[.int .i64 ct, .int .i64 cs, .int .i64 src, .int .i64 del, .int .i64 who, .int .i64 slot, .int .u64 word, .int .i64 steps, .bool false, .int .u64 value, .int .i64 1] 113 ∧ IsMem w' p F' (m.put who 1 (2 * n + who) 0 true) ∧ Upd (tb :: F) (tb :: F') w w' ∧ tb ∉ F' := by
  have h1 := hf.t1
  have h2 := hf.s1
  have h3 := hf.le
  have HN := Lib.hid hf.hn
  have HLEN := Lib.hid hf.len
  simp only at h1 h2
  have HM := Lib.hid hm
  have HT := Lib.hid htb
  have HB := Lib.hid hb
  have hbt := blk_lt hb
  obtain ⟨hrc, hrf⟩ := blk_S hb
  clear hm htb hb hf
  go_enter Try.func64, Try.ntmps64
  go_wp2_with fail
  go_region_held3 (fun w' => (∀ o, w'.cell? ⟨tb, o, none⟩ = (#[.int .i64 ct, .int .i64 cs, .int .i64 src, .int .i64 del, .int .i64 who, .int .i64 slot, .int .u64 word, .int .i64 steps, .bool false, .int .u64 value, .int .i64 0] : Array Value)[o]?) ∧ (∀ o, w'.frozen? ⟨tb, o, none⟩ = false))
    (first | exact blk_S (blk_drew HB.out) | exact blk_S B1 | exact blk_S B2)
    (first | (go_at_call 28; refine (lay_hazard _ ct cs src del h1 h2 who (by omega) n HN.out).mono ?_; rintro e w1 ⟨rfl, q1⟩; have B1 := blk_frm (blk_drew HB.out) q1 (by simp)) | (go_at_call 31; refine (mem_store _ p F m who 0 (2 * n + who) (HM.out.drew.ext q1) (by have := HLEN.out; omega) hlog ⟨by omega, by omega⟩).mono ?_; rintro e w2 ⟨rfl, F', M2, u2⟩; have B2 := blk_frm B1 u2.toFrm HT.out))
  clear hrc hrf
  obtain ⟨hrc, hrf⟩ := blk_S B2
  have hbt2 := blk_lt B2
  have HB2 := Lib.hid B2
  have HM2 := Lib.hid M2
  have HU2 := Lib.hid u2
  have HQ1 := Lib.hid q1
  clear B1 B2 M2 u2 q1
  go_wp2
  go_end0
  have hn' : tb ∉ F' := HU2.out.not (Nat.lt_of_lt_of_le hbt HQ1.out.size) HT.out
  refine ⟨rfl, F', ?_, ?_, ?_, hn'⟩
  · simpa using blk_set HB2.out 10 (.int .i64 1)
  · exact HM2.out.set hn' _
  · have c := ((Upd.drew (tb :: F) w).trans (Upd.of_frm _ HQ1.out)).trans (HU2.out.more tb)
    exact c.trans (Upd.set _ tb 10 _ _ (by simp))

set_option maxHeartbeats 1000000 in
theorem take_step0 (w : World) (tb p n : Nat) (F : List Nat) (m : MemS) (ct cs who slot : Nat) (src del word value : Int) (hm : IsMem w p F m) (htb : tb ∉ F) (hf : Fits ⟨ct, cs, src, del⟩ n m) (hwho : who < ct) (hlog : m.log.length < 1099511627776) (hslot : slot < n)
    (hb : Blk w tb #[.int .i64 ct, .int .i64 cs, .int .i64 src, .int .i64 del, .int .i64 who, .int .i64 slot, .int .u64 word, .int .i64 0, .bool false, .int .u64 value, .int .i64 0] 113) :
    Calls Try.prog 41 #[.pointer (some ⟨tb, 0, none⟩), .pointer (some ⟨p, 0, none⟩)] w fun e w' => e = .returned (.int .i64 0) ∧
      ∃ F', Blk w' tb #[.int .i64 ct, .int .i64 cs, .int .i64 src, .int .i64 del, .int .i64 who, .int .i64 slot, .int .u64 word, .int .i64 1, .bool false, .int .u64 value, .int .i64 0] 113 ∧ IsMem w' p F' (m.put who 1 (2 * n + who) ((slot : Int) + 1) true) ∧ Upd (tb :: F) (tb :: F') w w' ∧ tb ∉ F' := by
  have h0 := hf.le
  have hs1 : IntKind.i64.wrap ((slot : Int) + 1) = (slot : Int) + 1 := w64 (by omega) (by omega)
  have hs2 : IntKind.u64.wrap ((slot : Int) + 1) = (slot : Int) + 1 := IntWalk.u64_in _ (by omega)
  have HU := Lib.hid (show U64 ((slot : Int) + 1) from ⟨by omega, by omega⟩)
  clear h0
  have h1 := hf.t1
  have h2 := hf.s1
  have h3 := hf.le
  have HN := Lib.hid hf.hn
  have HLEN := Lib.hid hf.len
  simp only at h1 h2
  have HM := Lib.hid hm
  have HT := Lib.hid htb
  have HB := Lib.hid hb
  have hbt := blk_lt hb
  obtain ⟨hrc, hrf⟩ := blk_S hb
  clear hm htb hb hf
  go_enter Try.func41, Try.ntmps41
  go_wp2_with fail
  go_region_held3 (fun w' => (∀ o, w'.cell? ⟨tb, o, none⟩ = (#[.int .i64 ct, .int .i64 cs, .int .i64 src, .int .i64 del, .int .i64 who, .int .i64 slot, .int .u64 word, .int .i64 0, .bool false, .int .u64 value, .int .i64 0] : Array Value)[o]?) ∧ (∀ o, w'.frozen? ⟨tb, o, none⟩ = false))
    (first | exact blk_S (blk_drew HB.out) | exact blk_S B1 | exact blk_S B2)
    (first | (go_at_call 28; refine (lay_hazard _ ct cs src del h1 h2 who (by omega) n HN.out).mono ?_; rintro e w1 ⟨rfl, q1⟩; have B1 := blk_frm (blk_drew HB.out) q1 (by simp)) | (go_at_call 31; refine (mem_store _ p F m who ((slot : Int) + 1) (2 * n + who) (HM.out.drew.ext q1) (by have := HLEN.out; omega) hlog HU.out).mono ?_; rintro e w2 ⟨rfl, F', M2, u2⟩; have B2 := blk_frm B1 u2.toFrm HT.out))
  clear hrc hrf
  obtain ⟨hrc, hrf⟩ := blk_S B2
  have HBn := Lib.hid B2
  have HMn := Lib.hid M2
  have HUn := Lib.hid u2
  have HQ1 := Lib.hid q1
  clear B1 B2 q1 M2 u2
  go_wp2
  go_ret
  have hn' : tb ∉ F' := HUn.out.not (Nat.lt_of_lt_of_le hbt HQ1.out.size) HT.out
  refine ⟨rfl, F', ?_, ?_, ?_, hn'⟩
  · simpa using (blk_set HBn.out 7 _)
  · exact (HMn.out.set hn' _)
  · exact (((Upd.drew (tb :: F) w).trans (Upd.of_frm _ HQ1.out)).trans (HUn.out.more tb)).trans (Upd.set _ tb 7 _ _ (by simp))

set_option maxHeartbeats 1000000 in
theorem take_step1_same (w : World) (tb p n : Nat) (F : List Nat) (m : MemS) (ct cs who slot : Nat) (src del value : Int) (hm : IsMem w p F m) (htb : tb ∉ F) (hf : Fits ⟨ct, cs, src, del⟩ n m) (hwho : who < ct) (hlog : m.log.length < 1099511627776) (hslot : slot < n)
    (hb : Blk w tb #[.int .i64 ct, .int .i64 cs, .int .i64 src, .int .i64 del, .int .i64 who, .int .i64 slot, .int .u64 (m.at slot), .int .i64 1, .bool false, .int .u64 value, .int .i64 0] 113) :
    Calls Try.prog 41 #[.pointer (some ⟨tb, 0, none⟩), .pointer (some ⟨p, 0, none⟩)] w fun e w' => e = .returned (.int .i64 0) ∧
      ∃ F', Blk w' tb #[.int .i64 ct, .int .i64 cs, .int .i64 src, .int .i64 del, .int .i64 who, .int .i64 slot, .int .u64 (m.at slot), .int .i64 2, .bool false, .int .u64 value, .int .i64 0] 113 ∧ IsMem w' p F' (m.put who 0 slot (m.at slot) true) ∧ Upd (tb :: F) (tb :: F') w w' ∧ tb ∉ F' := by
  have h1 := hf.t1
  have h2 := hf.s1
  have h3 := hf.le
  have HN := Lib.hid hf.hn
  have HLEN := Lib.hid hf.len
  simp only at h1 h2
  have HM := Lib.hid hm
  have HT := Lib.hid htb
  have HB := Lib.hid hb
  have hbt := blk_lt hb
  obtain ⟨hrc, hrf⟩ := blk_S hb
  clear hm htb hb hf
  go_enter Try.func41, Try.ntmps41
  go_wp2_with fail
  go_region_held3 (fun w' => (∀ o, o ≠ 8 → w'.cell? ⟨tb, o, none⟩ = (#[.int .i64 ct, .int .i64 cs, .int .i64 src, .int .i64 del, .int .i64 who, .int .i64 slot, .int .u64 (m.at slot), .int .i64 1, .bool false, .int .u64 value, .int .i64 0] : Array Value)[o]?) ∧ (∀ o, w'.frozen? ⟨tb, o, none⟩ = false))
    (first | exact fld_of (blk_drew HB.out) 8 | exact fld_of B1 8 | exact fld_of B2 8 | exact fld_set B2 8 _)
    (first | (go_at_call 30; refine (lay_word _ ct cs src del slot).mono ?_; rintro e w1 ⟨rfl, q1⟩; have B1 := blk_frm (blk_drew HB.out) q1 (by simp)) | (go_at_call 63; refine (mem_load _ p F m who slot (HM.out.drew.ext q1) (by have := HLEN.out; omega) hlog).mono ?_; rintro e w2 ⟨rfl, F', M2, u2⟩; have B2 := blk_frm B1 u2.toFrm HT.out; have cx := blk_cell B2 8))
  clear hrc hrf
  obtain ⟨hrc, hrf⟩ := blk_S B2
  have HBn := Lib.hid B2
  have HMn := Lib.hid M2
  have HUn := Lib.hid u2
  have HQ1 := Lib.hid q1
  clear B1 B2 q1 M2 u2 cx
  go_wp2
  go_ret
  have hn' : tb ∉ F' := HUn.out.not (Nat.lt_of_lt_of_le hbt HQ1.out.size) HT.out
  refine ⟨rfl, F', ?_, ?_, ?_, hn'⟩
  · simpa using (blk_set (blk_set HBn.out 8 _) 7 _)
  · exact ((HMn.out.set hn' _).set hn' _)
  · exact ((((Upd.drew (tb :: F) w).trans (Upd.of_frm _ HQ1.out)).trans (HUn.out.more tb)).trans (Upd.set _ tb 8 _ _ (by simp))).trans (Upd.set _ tb 7 _ _ (by simp))

set_option maxHeartbeats 1000000 in
theorem take_step1_other (w : World) (tb p n : Nat) (F : List Nat) (m : MemS) (ct cs who slot : Nat) (src del word value : Int) (hm : IsMem w p F m) (htb : tb ∉ F) (hf : Fits ⟨ct, cs, src, del⟩ n m) (hwho : who < ct) (hlog : m.log.length < 1099511627776) (hslot : slot < n) (hd : (m.at slot == word) = false)
    (hb : Blk w tb #[.int .i64 ct, .int .i64 cs, .int .i64 src, .int .i64 del, .int .i64 who, .int .i64 slot, .int .u64 word, .int .i64 1, .bool false, .int .u64 value, .int .i64 0] 113) :
    Calls Try.prog 41 #[.pointer (some ⟨tb, 0, none⟩), .pointer (some ⟨p, 0, none⟩)] w fun e w' => e = .returned (.int .i64 0) ∧
      ∃ F', Blk w' tb #[.int .i64 ct, .int .i64 cs, .int .i64 src, .int .i64 del, .int .i64 who, .int .i64 slot, .int .u64 word, .int .i64 2, .bool true, .int .u64 value, .int .i64 0] 113 ∧ IsMem w' p F' (m.put who 0 slot (m.at slot) true) ∧ Upd (tb :: F) (tb :: F') w w' ∧ tb ∉ F' := by
  have hd2 : (m.at slot != word) = true := by simpa using hd
  have h1 := hf.t1
  have h2 := hf.s1
  have h3 := hf.le
  have HN := Lib.hid hf.hn
  have HLEN := Lib.hid hf.len
  simp only at h1 h2
  have HM := Lib.hid hm
  have HT := Lib.hid htb
  have HB := Lib.hid hb
  have hbt := blk_lt hb
  obtain ⟨hrc, hrf⟩ := blk_S hb
  clear hm htb hb hf
  go_enter Try.func41, Try.ntmps41
  go_wp2_with fail
  go_region_held3 (fun w' => (∀ o, o ≠ 8 → w'.cell? ⟨tb, o, none⟩ = (#[.int .i64 ct, .int .i64 cs, .int .i64 src, .int .i64 del, .int .i64 who, .int .i64 slot, .int .u64 word, .int .i64 1, .bool false, .int .u64 value, .int .i64 0] : Array Value)[o]?) ∧ (∀ o, w'.frozen? ⟨tb, o, none⟩ = false))
    (first | exact fld_of (blk_drew HB.out) 8 | exact fld_of B1 8 | exact fld_of B2 8 | exact fld_set B2 8 _)
    (first | (go_at_call 30; refine (lay_word _ ct cs src del slot).mono ?_; rintro e w1 ⟨rfl, q1⟩; have B1 := blk_frm (blk_drew HB.out) q1 (by simp)) | (go_at_call 63; refine (mem_load _ p F m who slot (HM.out.drew.ext q1) (by have := HLEN.out; omega) hlog).mono ?_; rintro e w2 ⟨rfl, F', M2, u2⟩; have B2 := blk_frm B1 u2.toFrm HT.out; have cx := blk_cell B2 8))
  clear hrc hrf
  obtain ⟨hrc, hrf⟩ := blk_S B2
  have HBn := Lib.hid B2
  have HMn := Lib.hid M2
  have HUn := Lib.hid u2
  have HQ1 := Lib.hid q1
  clear B1 B2 q1 M2 u2 cx
  go_wp2
  go_ret
  have hn' : tb ∉ F' := HUn.out.not (Nat.lt_of_lt_of_le hbt HQ1.out.size) HT.out
  refine ⟨rfl, F', ?_, ?_, ?_, hn'⟩
  · simpa using (blk_set (blk_set HBn.out 8 _) 7 _)
  · exact ((HMn.out.set hn' _).set hn' _)
  · exact ((((Upd.drew (tb :: F) w).trans (Upd.of_frm _ HQ1.out)).trans (HUn.out.more tb)).trans (Upd.set _ tb 8 _ _ (by simp))).trans (Upd.set _ tb 7 _ _ (by simp))

set_option maxHeartbeats 1000000 in
theorem take_step2 (w : World) (tb p n : Nat) (F : List Nat) (m : MemS) (ct cs who slot : Nat) (src del word value : Int) (hm : IsMem w p F m) (htb : tb ∉ F) (hf : Fits ⟨ct, cs, src, del⟩ n m) (hwho : who < ct) (hlog : m.log.length < 1099511627776) (hslot : slot < n)
    (hb : Blk w tb #[.int .i64 ct, .int .i64 cs, .int .i64 src, .int .i64 del, .int .i64 who, .int .i64 slot, .int .u64 word, .int .i64 2, .bool false, .int .u64 value, .int .i64 0] 113) :
    Calls Try.prog 41 #[.pointer (some ⟨tb, 0, none⟩), .pointer (some ⟨p, 0, none⟩)] w fun e w' => e = .returned (.int .i64 0) ∧
      ∃ F', Blk w' tb #[.int .i64 ct, .int .i64 cs, .int .i64 src, .int .i64 del, .int .i64 who, .int .i64 slot, .int .u64 word, .int .i64 3, .bool false, .int .u64 (m.at (n + slot)), .int .i64 0] 113 ∧ IsMem w' p F' (m.put who 0 (n + slot) (m.at (n + slot)) true) ∧ Upd (tb :: F) (tb :: F') w w' ∧ tb ∉ F' := by
  have h1 := hf.t1
  have h2 := hf.s1
  have h3 := hf.le
  have HN := Lib.hid hf.hn
  have HLEN := Lib.hid hf.len
  simp only at h1 h2
  have HM := Lib.hid hm
  have HT := Lib.hid htb
  have HB := Lib.hid hb
  have hbt := blk_lt hb
  obtain ⟨hrc, hrf⟩ := blk_S hb
  clear hm htb hb hf
  go_enter Try.func41, Try.ntmps41
  go_wp2_with fail
  go_region_held3 (fun w' => (∀ o, o ≠ 9 → w'.cell? ⟨tb, o, none⟩ = (#[.int .i64 ct, .int .i64 cs, .int .i64 src, .int .i64 del, .int .i64 who, .int .i64 slot, .int .u64 word, .int .i64 2, .bool false, .int .u64 value, .int .i64 0] : Array Value)[o]?) ∧ (∀ o, w'.frozen? ⟨tb, o, none⟩ = false))
    (first | exact fld_of (blk_drew HB.out) 9 | exact fld_of B1 9 | exact fld_of B2 9 | exact fld_set B2 9 _)
    (first | (go_at_call 25; refine (lay_value _ ct cs src del h1 h2 slot (by omega) n HN.out).mono ?_; rintro e w1 ⟨rfl, q1⟩; have B1 := blk_frm (blk_drew HB.out) q1 (by simp)) | (go_at_call 63; refine (mem_load _ p F m who (n + slot) (HM.out.drew.ext q1) (by have := HLEN.out; omega) hlog).mono ?_; rintro e w2 ⟨rfl, F', M2, u2⟩; have B2 := blk_frm B1 u2.toFrm HT.out; have cx := blk_cell B2 9))
  clear hrc hrf
  obtain ⟨hrc, hrf⟩ := blk_S B2
  have HBn := Lib.hid B2
  have HMn := Lib.hid M2
  have HUn := Lib.hid u2
  have HQ1 := Lib.hid q1
  clear B1 B2 q1 M2 u2 cx
  go_wp2
  go_ret
  have hn' : tb ∉ F' := HUn.out.not (Nat.lt_of_lt_of_le hbt HQ1.out.size) HT.out
  refine ⟨rfl, F', ?_, ?_, ?_, hn'⟩
  · simpa using (blk_set (blk_set HBn.out 9 _) 7 _)
  · exact ((HMn.out.set hn' _).set hn' _)
  · exact ((((Upd.drew (tb :: F) w).trans (Upd.of_frm _ HQ1.out)).trans (HUn.out.more tb)).trans (Upd.set _ tb 9 _ _ (by simp))).trans (Upd.set _ tb 7 _ _ (by simp))

end Go.Proofs.Ytkcimjcmlibgpaa
