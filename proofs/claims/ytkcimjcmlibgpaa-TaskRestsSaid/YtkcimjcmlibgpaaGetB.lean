/-
  Package get: each way of a step, by itself. Conditions: as the Snap's and the Take's own steps say.
-/
import Derived.Test.YtkcimjcmlibgpaaGet
namespace Go.Proofs.Ytkcimjcmlibgpaa
open Go.RowKit

theorem fld2_of {w : World} {b : Nat} {c : Array Value} {t : TypeId} (h : Blk w b c t) (x y : Nat) : (∀ o, o ≠ x → o ≠ y → w.cell? ⟨b, o, none⟩ = c[o]?) ∧ (∀ o, w.frozen? ⟨b, o, none⟩ = false) :=
  ⟨fun o _ _ => blk_cell h o, fun o => blk_free h o⟩
theorem fld2_set {w : World} {b : Nat} {c : Array Value} {t : TypeId} (h : Blk w b c t) (x y : Nat) (v : Value) : (∀ o, o ≠ x → o ≠ y → (w.setCell ⟨b, x, none⟩ v).cell? ⟨b, o, none⟩ = c[o]?) ∧ (∀ o, (w.setCell ⟨b, x, none⟩ v).frozen? ⟨b, o, none⟩ = false) :=
  ⟨fun o ho _ => by rw [blk_cell (blk_set h x v)]; simp [Ne.symm ho], fun o => blk_free (blk_set h x v) o⟩
theorem fld2_set' {w : World} {b : Nat} {c : Array Value} {t : TypeId} (h : Blk w b c t) (x y : Nat) (v : Value) : (∀ o, o ≠ x → o ≠ y → (w.setCell ⟨b, y, none⟩ v).cell? ⟨b, o, none⟩ = c[o]?) ∧ (∀ o, (w.setCell ⟨b, y, none⟩ v).frozen? ⟨b, o, none⟩ = false) :=
  ⟨fun o _ ho => by rw [blk_cell (blk_set h y v)]; simp [Ne.symm ho], fun o => blk_free (blk_set h y v) o⟩
theorem fld2_two {w : World} {b : Nat} {c : Array Value} {t : TypeId} (h : Blk w b c t) (x y : Nat) (u v : Value) : (∀ o, o ≠ x → o ≠ y → ((w.setCell ⟨b, y, none⟩ u).setCell ⟨b, x, none⟩ v).cell? ⟨b, o, none⟩ = c[o]?) ∧ (∀ o, ((w.setCell ⟨b, y, none⟩ u).setCell ⟨b, x, none⟩ v).frozen? ⟨b, o, none⟩ = false) :=
  ⟨fun o h1 h2 => by rw [blk_cell (blk_set (blk_set h y u) x v)]; simp [Ne.symm h1, Ne.symm h2], fun o => blk_free (blk_set (blk_set h y u) x v) o⟩

theorem get_over (w : World) (gb : Nat) (pv sp tp : Value) (ct cs who : Nat) (src del en start : Int) (tries : Nat) (value ph : Int) (hph : ph = 1 ∨ ph = 2)
    (hb : Blk w gb #[.int .i64 ct, .int .i64 cs, .int .i64 src, .int .i64 del, .int .i64 who, .int .i64 en, .int .i64 start, sp, tp, .int .i64 tries, .int .u64 value, .int .i64 ph] 103) :
    Calls Try.prog 21 #[.pointer (some ⟨gb, 0, none⟩), pv] w fun e w' => e = .returned (.int .i64 ph) ∧ w = w' := by
  obtain ⟨hrc, hrf⟩ := blk_S hb
  clear hb
  rcases hph with rfl | rfl
  all_goals
    go_enter Try.func21, Try.ntmps21
    go_wp2
    go_ret
    exact ⟨rfl, rfl⟩

set_option maxHeartbeats 1000000 in
theorem get_s_go (w : World) (gb sb wb p : Nat) (F : List Nat) (m' : MemS) (s : SnapS) (ct cs who : Nat) (src del en start : Int) (tries : Nat) (value : Int) (hF : gb ∉ F) (h1 : gb ≠ sb) (h2 : gb ≠ wb)
    (hs : Calls Try.prog 38 #[.pointer (some ⟨sb, 0, none⟩), .pointer (some ⟨p, 0, none⟩)] w fun e w' => e = .returned (.int .i64 0) ∧ ∃ F', IsSnap w' sb wb s ∧ IsMem w' p F' m' ∧ Upd (sb :: wb :: F) (sb :: wb :: F') w w' ∧ sb ∉ F' ∧ wb ∉ F')
    (hb : Blk w gb #[.int .i64 ct, .int .i64 cs, .int .i64 src, .int .i64 del, .int .i64 who, .int .i64 en, .int .i64 start, (.pointer (some ⟨sb, 0, none⟩)), (.pointer none), .int .i64 tries, .int .u64 value, .int .i64 0] 103) :
    Calls Try.prog 21 #[.pointer (some ⟨gb, 0, none⟩), .pointer (some ⟨p, 0, none⟩)] w fun e w' => e = .returned (.int .i64 0) ∧ ∃ F', Blk w' gb #[.int .i64 ct, .int .i64 cs, .int .i64 src, .int .i64 del, .int .i64 who, .int .i64 en, .int .i64 start, (.pointer (some ⟨sb, 0, none⟩)), (.pointer none), .int .i64 tries, .int .u64 value, .int .i64 0] 103 ∧ IsSnap w' sb wb s ∧ IsMem w' p F' m' ∧ Upd (gb :: sb :: wb :: F) (gb :: sb :: wb :: F') w w' ∧ gb ∉ F' ∧ sb ∉ F' ∧ wb ∉ F' := by
  have HC := Lib.hid hs
  have HB := Lib.hid hb
  have HF := Lib.hid hF
  have hbt := blk_lt hb
  obtain ⟨hrc, hrf⟩ := blk_S hb
  clear hs hb hF
  go_enter Try.func21, Try.ntmps21
  go_wp2_with (go_at_call 38; refine HC.out.mono ?_; rintro e w1 ⟨rfl, F', S1, M1, u1, n1, n2⟩; have B1 := blk_frm HB.out u1.toFrm (by simp [h1, h2, HF.out]); clear hrc hrf; obtain ⟨hrc, hrf⟩ := blk_S B1; have hbt1 := blk_lt B1; have HB1 := Lib.hid B1; have HS1 := Lib.hid S1; have HM1 := Lib.hid M1; have HU1 := Lib.hid u1; have N1 := Lib.hid n1; have N2 := Lib.hid n2; clear B1 S1 M1 u1 n1 n2)
  go_ret
  have hg : gb ∉ F' := fun h => by
    rcases HU1.out.grows gb (by simp [h]) with h3 | h3
    · simp [h1, h2] at h3; exact HF.out h3
    · omega
  exact ⟨rfl, F', HB1.out, HS1.out, HM1.out, HU1.out.more gb, hg, N1.out, N2.out⟩

set_option maxHeartbeats 1000000 in
theorem get_s_full (w : World) (gb sb wb p n : Nat) (F : List Nat) (m' : MemS) (s : SnapS) (ct cs who : Nat) (src del en start : Int) (tries : Nat) (value : Int) (hF : gb ∉ F) (h1 : gb ≠ sb) (h2 : gb ≠ wb)
    (hs : Calls Try.prog 38 #[.pointer (some ⟨sb, 0, none⟩), .pointer (some ⟨p, 0, none⟩)] w fun e w' => e = .returned (.int .i64 1) ∧ ∃ F', IsSnap w' sb wb s ∧ IsMem w' p F' m' ∧ Upd (sb :: wb :: F) (sb :: wb :: F') w w' ∧ sb ∉ F' ∧ wb ∉ F') (hwl : s.words.length = n) (hn : n ≤ 4096) (hph : s.phase = 1) (hu : ∀ x ∈ s.words, U64 x) (hen : en = 0 ∨ en = 1) (hR : atR (rowW s.words) en = -1)
    (hb : Blk w gb #[.int .i64 ct, .int .i64 cs, .int .i64 src, .int .i64 del, .int .i64 who, .int .i64 en, .int .i64 start, (.pointer (some ⟨sb, 0, none⟩)), (.pointer none), .int .i64 tries, .int .u64 value, .int .i64 0] 103) :
    Calls Try.prog 21 #[.pointer (some ⟨gb, 0, none⟩), .pointer (some ⟨p, 0, none⟩)] w fun e w' => e = .returned (.int .i64 2) ∧ ∃ F', Blk w' gb #[.int .i64 ct, .int .i64 cs, .int .i64 src, .int .i64 del, .int .i64 who, .int .i64 en, .int .i64 start, (.pointer (some ⟨sb, 0, none⟩)), (.pointer none), .int .i64 tries, .int .u64 value, .int .i64 2] 103 ∧ IsSnap w' sb wb s ∧ IsMem w' p F' m' ∧ Upd (gb :: sb :: wb :: F) (gb :: sb :: wb :: F') w w' ∧ gb ∉ F' ∧ sb ∉ F' ∧ wb ∉ F' := by
  have HD := Lib.hid (fun w1 hS hB => get_chosen_full w1 gb sb wb n ct cs who src del en start s tries value hS hwl hn hph hu hen hR hB)
  clear hwl hph hu hR
  have HC := Lib.hid hs
  have HB := Lib.hid hb
  have HF := Lib.hid hF
  have hbt := blk_lt hb
  obtain ⟨hrc, hrf⟩ := blk_S hb
  clear hs hb hF
  go_enter Try.func21, Try.ntmps21
  go_wp2_with (first | (go_at_call 38; refine HC.out.mono ?_; rintro e w1 ⟨rfl, F', S1, M1, u1, n1, n2⟩; have B1 := blk_frm HB.out u1.toFrm (by simp [h1, h2, HF.out]); clear hrc hrf; obtain ⟨hrc, hrf⟩ := blk_S B1; have hbt1 := blk_lt B1; have HB1 := Lib.hid B1; have HS1 := Lib.hid S1; have HM1 := Lib.hid M1; have HU1 := Lib.hid u1; have N1 := Lib.hid n1; have N2 := Lib.hid n2; clear B1 S1 M1 u1 n1 n2) | (go_at_call 59; refine (HD.out w1 HS1.out HB1.out).mono ?_; rintro e w2 ⟨rfl, B2, q2⟩; clear hrc hrf; obtain ⟨hrc, hrf⟩ := blk_S B2; have hbt2 := blk_lt B2; have HB2 := Lib.hid B2; have HQ2 := Lib.hid q2; clear B2 q2))
  go_ret
  have hg : gb ∉ F' := fun h => by
    rcases HU1.out.grows gb (by simp [h]) with h3 | h3
    · simp [h1, h2] at h3; exact HF.out h3
    · omega
  refine ⟨rfl, F', HB2.out, HS1.out.frm HQ2.out (by simpa using Ne.symm h1) (by simpa using Ne.symm h2), HM1.out.frm HQ2.out (by intro x hx e; simp at e; subst e; exact hg hx), (HU1.out.more gb).trans ⟨HQ2.out.mono (by simp), fun _ h => .inl h⟩, hg, N1.out, N2.out⟩

set_option maxHeartbeats 1000000 in
theorem get_s_take (w : World) (gb sb wb p n : Nat) (F : List Nat) (m' : MemS) (s : SnapS) (ct cs who : Nat) (src del en start : Int) (tries : Nat) (value : Int) (hF : gb ∉ F) (h1 : gb ≠ sb) (h2 : gb ≠ wb)
    (hs : Calls Try.prog 38 #[.pointer (some ⟨sb, 0, none⟩), .pointer (some ⟨p, 0, none⟩)] w fun e w' => e = .returned (.int .i64 1) ∧ ∃ F', IsSnap w' sb wb s ∧ IsMem w' p F' m' ∧ Upd (sb :: wb :: F) (sb :: wb :: F') w w' ∧ sb ∉ F' ∧ wb ∉ F') (hwl : s.words.length = n) (hn : n ≤ 4096) (hph : s.phase = 1) (hu : ∀ x ∈ s.words, U64 x) (hen : en = 0 ∨ en = 1) (z : Nat) (hz : z < n) (hR : atR (rowW s.words) en = (z : Int))
    (hb : Blk w gb #[.int .i64 ct, .int .i64 cs, .int .i64 src, .int .i64 del, .int .i64 who, .int .i64 en, .int .i64 start, (.pointer (some ⟨sb, 0, none⟩)), (.pointer none), .int .i64 tries, .int .u64 value, .int .i64 0] 103) :
    Calls Try.prog 21 #[.pointer (some ⟨gb, 0, none⟩), .pointer (some ⟨p, 0, none⟩)] w fun e w' => e = .returned (.int .i64 0) ∧ ∃ F' tb, Blk w' gb #[.int .i64 ct, .int .i64 cs, .int .i64 src, .int .i64 del, .int .i64 who, .int .i64 en, .int .i64 start, (.pointer (some ⟨sb, 0, none⟩)), (.pointer (some ⟨tb, 0, none⟩)), .int .i64 tries, .int .u64 value, .int .i64 0] 103 ∧ Blk w' tb (take0 ⟨ct, cs, src, del⟩ who z (s.words.getD z 0)).row 113 ∧ IsMem w' p F' m' ∧ Upd (gb :: sb :: wb :: F) (gb :: tb :: F') w w' ∧ gb ∉ F' ∧ tb ∉ F' ∧ gb ≠ tb := by
  have HD := Lib.hid (fun w1 hS hB => get_chosen_take w1 gb sb wb n ct cs who src del en start s tries value hS hwl hn hph hu hen z hz hR hB)
  clear hwl hph hu hR
  have HC := Lib.hid hs
  have HB := Lib.hid hb
  have HF := Lib.hid hF
  have hbt := blk_lt hb
  obtain ⟨hrc, hrf⟩ := blk_S hb
  clear hs hb hF
  go_enter Try.func21, Try.ntmps21
  go_wp2_with (first | (go_at_call 38; refine HC.out.mono ?_; rintro e w1 ⟨rfl, F', S1, M1, u1, n1, n2⟩; have B1 := blk_frm HB.out u1.toFrm (by simp [h1, h2, HF.out]); clear hrc hrf; obtain ⟨hrc, hrf⟩ := blk_S B1; have hbt1 := blk_lt B1; have HB1 := Lib.hid B1; have HS1 := Lib.hid S1; have HM1 := Lib.hid M1; have HU1 := Lib.hid u1; have N1 := Lib.hid n1; have N2 := Lib.hid n2; clear B1 S1 M1 u1 n1 n2) | (go_at_call 59; refine (HD.out w1 HS1.out HB1.out).mono ?_; rintro e w2 ⟨rfl, tb, ht2, T2, B2, q2⟩; clear hrc hrf; obtain ⟨hrc, hrf⟩ := blk_S B2; have hbt2 := blk_lt B2; have HB2 := Lib.hid B2; have HT2 := Lib.hid T2; have HQ2 := Lib.hid q2; clear B2 T2 q2))
  go_ret
  have hg : gb ∉ F' := fun h => by
    rcases HU1.out.grows gb (by simp [h]) with h3 | h3
    · simp [h1, h2] at h3; exact HF.out h3
    · omega
  have ht : tb ∉ F' := fun h => by have := HM1.out.lt tb h; omega
  have hgt : gb ≠ tb := by omega
  refine ⟨rfl, F', tb, HB2.out, HT2.out, HM1.out.frm HQ2.out (by intro x hx e; simp at e; subst e; exact hg hx), ?_, hg, ht, hgt⟩
  refine (HU1.out.more gb).trans ⟨HQ2.out.mono (by simp), fun k hk => ?_⟩
  simp only [List.mem_cons] at hk ⊢
  rcases hk with rfl | rfl | hk
  · exact .inl (.inl rfl)
  · exact .inr ht2
  · exact .inl (.inr (.inr (.inr hk)))

set_option maxHeartbeats 1000000 in
theorem get_t_go (w : World) (gb tb p : Nat) (F : List Nat) (m' : MemS) (t : TakeS) (ct cs who : Nat) (src del en start : Int) (sp : Value) (tries : Nat) (value : Int) (hF : gb ∉ F) (h1 : gb ≠ tb)
    (hs : Calls Try.prog 41 #[.pointer (some ⟨tb, 0, none⟩), .pointer (some ⟨p, 0, none⟩)] w fun e w' => e = .returned (.int .i64 0) ∧ ∃ F', Blk w' tb t.row 113 ∧ IsMem w' p F' m' ∧ Upd (tb :: F) (tb :: F') w w' ∧ tb ∉ F')
    (hb : Blk w gb #[.int .i64 ct, .int .i64 cs, .int .i64 src, .int .i64 del, .int .i64 who, .int .i64 en, .int .i64 start, sp, (.pointer (some ⟨tb, 0, none⟩)), .int .i64 tries, .int .u64 value, .int .i64 0] 103) :
    Calls Try.prog 21 #[.pointer (some ⟨gb, 0, none⟩), .pointer (some ⟨p, 0, none⟩)] w fun e w' => e = .returned (.int .i64 0) ∧ ∃ F', Blk w' gb #[.int .i64 ct, .int .i64 cs, .int .i64 src, .int .i64 del, .int .i64 who, .int .i64 en, .int .i64 start, sp, (.pointer (some ⟨tb, 0, none⟩)), .int .i64 tries, .int .u64 value, .int .i64 0] 103 ∧ Blk w' tb t.row 113 ∧ IsMem w' p F' m' ∧ Upd (gb :: tb :: F) (gb :: tb :: F') w w' ∧ gb ∉ F' ∧ tb ∉ F' := by
  have HC := Lib.hid hs
  have HB := Lib.hid hb
  have HF := Lib.hid hF
  have hbt := blk_lt hb
  obtain ⟨hrc, hrf⟩ := blk_S hb
  clear hs hb hF
  go_enter Try.func21, Try.ntmps21
  go_wp2_with (go_at_call 41; refine HC.out.mono ?_; rintro e w1 ⟨rfl, F', T1, M1, u1, n1⟩; have B1 := blk_frm HB.out u1.toFrm (by simp [h1, HF.out]); clear hrc hrf; obtain ⟨hrc, hrf⟩ := blk_S B1; have hbt1 := blk_lt B1; have HB1 := Lib.hid B1; have HT1 := Lib.hid T1; have HM1 := Lib.hid M1; have HU1 := Lib.hid u1; have N1 := Lib.hid n1; clear B1 T1 M1 u1 n1)
  go_ret
  have hg : gb ∉ F' := fun h => by
    rcases HU1.out.grows gb (by simp [h]) with h3 | h3
    · simp [h1] at h3; exact HF.out h3
    · omega
  exact ⟨rfl, F', HB1.out, HT1.out, HM1.out, HU1.out.more gb, hg, N1.out⟩

set_option maxHeartbeats 1000000 in
theorem get_t_done (w : World) (gb tb p : Nat) (F : List Nat) (m' : MemS) (t : TakeS) (ct cs who : Nat) (src del en start : Int) (sp : Value) (tries : Nat) (value : Int) (hF : gb ∉ F) (h1 : gb ≠ tb)
    (hs : Calls Try.prog 41 #[.pointer (some ⟨tb, 0, none⟩), .pointer (some ⟨p, 0, none⟩)] w fun e w' => e = .returned (.int .i64 1) ∧ ∃ F', Blk w' tb t.row 113 ∧ IsMem w' p F' m' ∧ Upd (tb :: F) (tb :: F') w w' ∧ tb ∉ F') (hph : t.phase = 1)
    (hb : Blk w gb #[.int .i64 ct, .int .i64 cs, .int .i64 src, .int .i64 del, .int .i64 who, .int .i64 en, .int .i64 start, sp, (.pointer (some ⟨tb, 0, none⟩)), .int .i64 tries, .int .u64 value, .int .i64 0] 103) :
    Calls Try.prog 21 #[.pointer (some ⟨gb, 0, none⟩), .pointer (some ⟨p, 0, none⟩)] w fun e w' => e = .returned (.int .i64 1) ∧ ∃ F', Blk w' gb #[.int .i64 ct, .int .i64 cs, .int .i64 src, .int .i64 del, .int .i64 who, .int .i64 en, .int .i64 start, sp, (.pointer (some ⟨tb, 0, none⟩)), .int .i64 tries, .int .u64 t.value, .int .i64 1] 103 ∧ Blk w' tb t.row 113 ∧ IsMem w' p F' m' ∧ Upd (gb :: tb :: F) (gb :: tb :: F') w w' ∧ gb ∉ F' ∧ tb ∉ F' := by
  have HC := Lib.hid hs
  have HB := Lib.hid hb
  have HF := Lib.hid hF
  have hbt := blk_lt hb
  obtain ⟨hrc, hrf⟩ := blk_S hb
  clear hs hb hF
  go_enter Try.func21, Try.ntmps21
  go_wp2_with (first | (go_at_call 41; refine HC.out.mono ?_; rintro e w1 ⟨rfl, F', T1, M1, u1, n1⟩; have B1 := blk_frm HB.out u1.toFrm (by simp [h1, HF.out]); clear hrc hrf; obtain ⟨hrc, hrf⟩ := blk_S B1; have hbt1 := blk_lt B1; have HB1 := Lib.hid B1; have HT1 := Lib.hid T1; have HM1 := Lib.hid M1; have HU1 := Lib.hid u1; have N1 := Lib.hid n1; clear B1 T1 M1 u1 n1) | (go_at_call 42; refine (take_value_done w1 tb t HT1.out hph).mono ?_; rintro e _ ⟨rfl, rfl⟩))
  go_ret
  have hg : gb ∉ F' := fun h => by
    rcases HU1.out.grows gb (by simp [h]) with h3 | h3
    · simp [h1] at h3; exact HF.out h3
    · omega
  refine ⟨rfl, F', ?_, blk_other (blk_other HT1.out (Ne.symm h1) _) (Ne.symm h1) _, (HM1.out.set hg _).set hg _, ((HU1.out.more gb).trans (Upd.set _ gb _ _ _ (by simp))).trans (Upd.set _ gb _ _ _ (by simp)), hg, N1.out⟩
  simpa using blk_set (blk_set HB1.out 10 _) 11 _

set_option maxHeartbeats 2000000 in
theorem get_t_full (w : World) (gb tb p : Nat) (F : List Nat) (m' : MemS) (t : TakeS) (ct cs who : Nat) (src del en start : Int) (sp : Value) (tries : Nat) (value : Int) (hF : gb ∉ F) (h1 : gb ≠ tb) (n : Nat) (hcn : n = ct * cs) (hct : ct ≤ 64) (hcs : cs ≤ 64) (hn0 : 1 ≤ n) (htr : tries < 1099511627776)
    (hs : Calls Try.prog 41 #[.pointer (some ⟨tb, 0, none⟩), .pointer (some ⟨p, 0, none⟩)] w fun e w' => e = .returned (.int .i64 2) ∧ ∃ F', Blk w' tb t.row 113 ∧ IsMem w' p F' m' ∧ Upd (tb :: F) (tb :: F') w w' ∧ tb ∉ F')
    (hb : Blk w gb #[.int .i64 ct, .int .i64 cs, .int .i64 src, .int .i64 del, .int .i64 who, .int .i64 en, .int .i64 start, sp, (.pointer (some ⟨tb, 0, none⟩)), .int .i64 tries, .int .u64 value, .int .i64 0] 103) :
    Calls Try.prog 21 #[.pointer (some ⟨gb, 0, none⟩), .pointer (some ⟨p, 0, none⟩)] w fun e w' => e = .returned (.int .i64 0) ∧ ∃ F' sb wb, Blk w' gb #[.int .i64 ct, .int .i64 cs, .int .i64 src, .int .i64 del, .int .i64 who, .int .i64 en, .int .i64 start, (.pointer (some ⟨sb, 0, none⟩)), (.pointer none), .int .i64 ((tries : Int) + 1), .int .u64 value, .int .i64 0] 103 ∧ IsSnap w' sb wb (snap0 ⟨ct, cs, src, del⟩ who n start) ∧ IsMem w' p F' m' ∧ Upd (gb :: tb :: F) (gb :: sb :: wb :: F') w w' ∧ gb ∉ F' ∧ sb ∉ F' ∧ wb ∉ F' ∧ gb ≠ sb ∧ gb ≠ wb := by
  have HN := Lib.hid (fun w2 => snap_new w2 ct cs who n src del start hct hcs hcn hn0)
  have hw : IntKind.i64.wrap ((tries : Int) + 1) = (tries : Int) + 1 := w64 (by omega) (by omega)
  clear hcn hct hcs hn0
  have HC := Lib.hid hs
  have HB := Lib.hid hb
  have HF := Lib.hid hF
  have hbt := blk_lt hb
  obtain ⟨hrc, hrf⟩ := blk_S hb
  clear hs hb hF
  go_enter Try.func21, Try.ntmps21
  go_wp2_with (go_at_call 41; refine HC.out.mono ?_; rintro e w1 ⟨rfl, F', T1, M1, u1, n1⟩; have B1 := blk_frm HB.out u1.toFrm (by simp [h1, HF.out]); clear hrc hrf; obtain ⟨hrc, hrf⟩ := blk_S B1; have hbt1 := blk_lt B1; have HB1 := Lib.hid B1; have HT1 := Lib.hid T1; have HM1 := Lib.hid M1; have HU1 := Lib.hid u1; have N1 := Lib.hid n1; clear B1 T1 M1 u1 n1)
  have B2 := blk_set HB1.out 9 (.int .i64 ((tries : Int) + 1))
  have M2 := HM1.out.set (o := 9) (t := gb) (by
    intro h
    rcases HU1.out.grows gb (by simp [h]) with h3 | h3
    · simp [h1] at h3; exact HF.out h3
    · omega) (.int .i64 ((tries : Int) + 1))
  have HB2 := Lib.hid B2
  have HM2 := Lib.hid M2
  clear B2 M2
  have hz := Lib.hid (show (w1.setCell ⟨gb, 9, none⟩ (.int .i64 ((tries : Int) + 1))).heap.size = w1.heap.size from size_sc _ _ _)
  have hU2 := Lib.hid (((HU1.out.more gb).trans (Upd.set (gb :: tb :: F') gb 9 w1 (.int .i64 ((tries : Int) + 1)) (by simp))))
  simp only [List.setIfInBounds_toArray, List.set_cons_succ, List.set_cons_zero] at HB2
  generalize w1.setCell ⟨gb, 9, none⟩ (.int .i64 ((tries : Int) + 1)) = wa at *
  clear hrc hrf
  obtain ⟨hrc, hrf⟩ := blk_S HB2.out
  go_region_held3 (fun w' => (∀ o, o ≠ 7 → o ≠ 8 → w'.cell? ⟨gb, o, none⟩ = (#[.int .i64 ct, .int .i64 cs, .int .i64 src, .int .i64 del, .int .i64 who, .int .i64 en, .int .i64 start, sp, .pointer (some ⟨tb, 0, none⟩), .int .i64 ((tries : Int) + 1), .int .u64 value, .int .i64 0] : Array Value)[o]?) ∧ (∀ o, w'.frozen? ⟨gb, o, none⟩ = false))
    (first | exact fld2_of (blk_drew HB2.out) 7 8 | exact fld2_of B3 7 8 | exact fld2_of (blk_set B3 8 _) 7 8 | exact fld2_set B3 7 8 _ | exact fld2_set' B3 7 8 _ | exact fld2_two B3 7 8 _ _)
    (first | (go_at_call 36; refine (HN.out _).mono ?_; rintro e w3 ⟨sb, wb, rfl, hsb, hwb, S3, q3⟩; have B3 := blk_frm (blk_drew HB2.out) q3 (by simp); have cx := blk_cell B3 8; have cy := blk_cell B3 7; have hbt3 := blk_lt B3))
  have HB3 := Lib.hid B3
  have HS3 := Lib.hid S3
  have HQ3 := Lib.hid q3
  have hsb' : w1.heap.size ≤ sb := by rw [← hz.out]; exact hsb
  have hwb' : w1.heap.size ≤ wb := by rw [← hz.out]; exact hwb
  have HM3 := Lib.hid (HM2.out.drew.ext q3)
  have HU3 := Lib.hid (hU2.out.trans (Upd.of_frm _ ((Frm.drew _ _).tr q3)))
  clear cx cy hrc hrf B3 S3 q3 hsb hwb
  have HB4 := Lib.hid (blk_set (blk_set HB3.out 8 (.pointer none)) 7 (.pointer (some ⟨sb, 0, none⟩)))
  have hg1 : gb ≠ sb := by omega
  have hg2 : gb ≠ wb := by omega
  have HS4 := Lib.hid ((HS3.out.set (o := 8) (Ne.symm hg1) (Ne.symm hg2) (.pointer none)).set (o := 7) (Ne.symm hg1) (Ne.symm hg2) (.pointer (some ⟨sb, 0, none⟩)))
  have hg : gb ∉ F' := fun h => by
    rcases HU1.out.grows gb (by simp [h]) with h3 | h3
    · simp [h1] at h3; exact HF.out h3
    · omega
  have hs' : sb ∉ F' := fun h => by have := HM1.out.lt sb h; omega
  have hw'' : wb ∉ F' := fun h => by have := HM1.out.lt wb h; omega
  have HM4 := Lib.hid ((HM3.out.set (o := 8) hg (.pointer none)).set (o := 7) hg (.pointer (some ⟨sb, 0, none⟩)))
  have HU4 := Lib.hid ((HU3.out.trans (Upd.set _ gb 8 w3 (.pointer none) (by simp))).trans (Upd.set _ gb 7 _ (.pointer (some ⟨sb, 0, none⟩)) (by simp)))
  have hsz : w.heap.size ≤ w1.heap.size := HU1.out.size
  simp only [List.setIfInBounds_toArray, List.set_cons_succ, List.set_cons_zero] at HB4
  generalize (w3.setCell ⟨gb, 8, none⟩ (.pointer none)).setCell ⟨gb, 7, none⟩ (.pointer (some ⟨sb, 0, none⟩)) = wz at *
  have hbt4 := blk_lt HB4.out
  obtain ⟨hrc, hrf⟩ := blk_S HB4.out
  clear HN HC HM2 HM3 HB3 HS3 HB2 HU3 hU2
  go_wp2
  go_ret
  refine ⟨rfl, F', sb, wb, HB4.out, HS4.out, HM4.out, ⟨HU4.out.toFrm, fun k hk => ?_⟩, hg, hs', hw'', hg1, hg2⟩
  simp only [List.mem_cons] at hk
  rcases hk with rfl | rfl | rfl | hk
  · exact .inl (by simp)
  · exact .inr (by omega)
  · exact .inr (by omega)
  · exact HU4.out.grows k (by simp [hk])

end Go.Proofs.Ytkcimjcmlibgpaa
