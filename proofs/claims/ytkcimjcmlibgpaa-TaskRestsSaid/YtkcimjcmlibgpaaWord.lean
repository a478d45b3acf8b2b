/-
  Packages stamp and word: a word's number, and back. Conditions: the numbers' bounds.
-/
import Derived.Test.YtkcimjcmlibgpaaBase
namespace Go.Proofs.Ytkcimjcmlibgpaa
open Go.RowKit

/-- A place's word. -/
structure Wd where
  st : Int
  en : Int
  gen : Int
  lo : Int
  hi : Int
  deriving DecidableEq

structure Wd.Ok (w : Wd) : Prop where
  s0 : 0 ≤ w.st
  s1 : w.st ≤ 2
  e0 : 0 ≤ w.en
  e1 : w.en ≤ 1
  g0 : 0 ≤ w.gen
  g1 : w.gen ≤ 8191
  l0 : 0 ≤ w.lo
  l1 : w.lo ≤ 16777215
  h0 : 0 ≤ w.hi
  h1 : w.hi ≤ 16777215

def Wd.pack (w : Wd) : Int := w.st + w.en * 4 + w.gen * 8 + w.lo * 65536 + w.hi * 1099511627776
def unpk (x : Int) : Wd := ⟨x % 4, x / 4 % 2, x / 8 % 8192, x / 65536 % 16777216, x / 1099511627776 % 16777216⟩
def Wd.taken (w : Wd) : Wd := { w with st := 2 }
def Wd.next (w : Wd) (en lo hi : Int) : Wd := ⟨1, en, w.gen + 1, lo, hi⟩

theorem unpk_ok (x : Int) (h : x % 4 ≠ 3) : (unpk x).Ok := by
  constructor <;> simp only [unpk] <;> omega
theorem unpk_taken_ok (x : Int) : (unpk x).taken.Ok := by
  constructor <;> simp only [unpk, Wd.taken] <;> omega
theorem unpk_pack (w : Wd) (h : w.Ok) : unpk w.pack = w := by
  obtain ⟨s0, s1, e0, e1, g0, g1, l0, l1, h0, h1⟩ := h
  cases w
  simp only [unpk, Wd.pack] at *
  congr 1 <;> omega
theorem pack_unpk (x : Int) (h0 : 0 ≤ x) (h1 : x < 18446744073709551616) : (unpk x).pack = x := by
  simp only [unpk, Wd.pack]; omega
theorem pack_u64 (w : Wd) (h : w.Ok) : 0 ≤ w.pack ∧ w.pack < 18446744073709551616 := by
  obtain ⟨s0, s1, e0, e1, g0, g1, l0, l1, h0, h1⟩ := h
  simp only [Wd.pack]; omega

theorem and_mask (x : Int) (k m : Nat) (hm : m + 1 = 2 ^ k) (hm' : m < 18446744073709551616) (h0 : 0 ≤ x) (h1 : x < 18446744073709551616) : bits .and .u64 x (m : Int) = x % ((m + 1 : Nat) : Int) := by
  obtain ⟨n, rfl⟩ := Int.eq_ofNat_of_zero_le h0
  rw [u64_and_nat n m (by omega) hm']
  have : n &&& m = n % (m + 1) := by
    rw [hm, ← Nat.and_two_pow_sub_one_eq_mod]; congr 1; omega
  rw [this]; simp
theorem and_3 (x : Int) (h0 : 0 ≤ x) (h1 : x < 18446744073709551616) : wrap64 (bits .and .u64 x 3) = x % 4 := by
  have := and_mask x 2 3 (by decide) (by decide) h0 h1
  rw [show ((3 : Nat) : Int) = 3 from rfl] at this
  rw [this]; unfold wrap64; omega
theorem and_1 (x : Int) (h0 : 0 ≤ x) (h1 : x < 18446744073709551616) : wrap64 (bits .and .u64 x 1) = x % 2 := by
  have := and_mask x 1 1 (by decide) (by decide) h0 h1
  rw [show ((1 : Nat) : Int) = 1 from rfl] at this
  rw [this]; unfold wrap64; omega
theorem and_8191 (x : Int) (h0 : 0 ≤ x) (h1 : x < 18446744073709551616) : wrap64 (bits .and .u64 x 8191) = x % 8192 := by
  have := and_mask x 13 8191 (by decide) (by decide) h0 h1
  rw [show ((8191 : Nat) : Int) = 8191 from rfl] at this
  rw [this]; unfold wrap64; omega
theorem and_top (x : Int) (h0 : 0 ≤ x) (h1 : x < 18446744073709551616) : wrap64 (bits .and .u64 x 16777215) = x % 16777216 := by
  have := and_mask x 24 16777215 (by decide) (by decide) h0 h1
  rw [show ((16777215 : Nat) : Int) = 16777215 from rfl] at this
  rw [this]; unfold wrap64; omega
theorem or_join (a b : Int) (k : Nat) (m : Nat) (hm : m = 2 ^ k) (h0 : 0 ≤ a) (h1 : a < m) (h2 : 0 ≤ b) (h3 : a + b * m < 18446744073709551616) : bits .or .u64 a (b * (m : Int)) = a + b * m := by
  obtain ⟨n, rfl⟩ := Int.eq_ofNat_of_zero_le h0
  obtain ⟨c, rfl⟩ := Int.eq_ofNat_of_zero_le h2
  have e : ((c : Int) * (m : Int)) = ((c * m : Nat) : Int) := by simp
  rw [e] at h3 ⊢
  rw [u64_or_nat n (c * m) (by omega) (by omega)]
  have h4 : (c * m) ||| n = c * m + n := nat_join k _ _ (by rw [hm]; simp) (by rw [← hm]; omega)
  rw [Nat.or_comm, h4]; omega

theorem agg5_eq {a b c d e a' b' c' d' e' : Int} (h1 : a = a') (h2 : b = b') (h3 : c = c') (h4 : d = d') (h5 : e = e') :
    Ending.returned (.agg #[.int .i64 a, .int .i64 b, .int .i64 c, .int .i64 d, .int .i64 e]) = .returned (.agg #[.int .i64 a', .int .i64 b', .int .i64 c', .int .i64 d', .int .i64 e']) := by
  subst h1 h2 h3 h4 h5; rfl

set_option maxHeartbeats 400000 in
theorem word_unpack (w : World) (x : Int) (h0 : 0 ≤ x) (h1 : x < 18446744073709551616) :
    Calls Try.prog 29 #[.int .u64 x] w fun e w' => e = .returned (.agg #[.int .i64 (unpk x).st, .int .i64 (unpk x).en, .int .i64 (unpk x).gen, .int .i64 (unpk x).lo, .int .i64 (unpk x).hi]) ∧ Frm [] w w' := by
  go_enter Try.func29, Try.ntmps29
  go_wp2
  refine bodyPost_ret (v := .agg #[.int .i64 (wrap64 (bits .and .u64 x 3)), .int .i64 (wrap64 (bits .and .u64 (x / 4) 1)), .int .i64 (wrap64 (bits .and .u64 (x / 8) 8191)), .int .i64 (wrap64 (bits .and .u64 (x / 65536) 16777215)), .int .i64 (wrap64 (bits .and .u64 (x / 1099511627776) 16777215))]) (by simp [results, Try.results29, go_sem]) rfl ⟨?_, Frm.alloc _ _ _⟩
  exact agg5_eq (and_3 _ h0 h1) (and_1 _ (by omega) (by omega)) (and_8191 _ (by omega) (by omega)) (and_top _ (by omega) (by omega)) (and_top _ (by omega) (by omega))

theorem word_right (w : World) (v : Wd) (hv : v.Ok) :
    Calls Try.prog 62 #[.agg #[.int .i64 v.st, .int .i64 v.en, .int .i64 v.gen, .int .i64 v.lo, .int .i64 v.hi]] w fun e w' => e = .returned (.bool true) ∧ Frm [] w w' := by
  obtain ⟨s, e, g, lo, hi⟩ := v
  obtain ⟨s0, s1, e0, e1, g0, g1, l0, l1, i0, i1⟩ := hv
  simp only at *
  obtain rfl | rfl : e = 0 ∨ e = 1 := by omega
  all_goals
    clear e0 e1
    go_enter Try.func62, Try.ntmps62
    go_wp2
    go_ret
    exact ⟨rfl, Frm.alloc _ _ _⟩

theorem pack_bits (s e g lo hi : Int) (s0 : 0 ≤ s) (s1 : s ≤ 2) (e0 : 0 ≤ e) (e1 : e ≤ 1) (g0 : 0 ≤ g) (g1 : g ≤ 8191) (l0 : 0 ≤ lo) (l1 : lo ≤ 16777215) (i0 : 0 ≤ hi) (i1 : hi ≤ 16777215) :
    bits .or .u64 (bits .or .u64 (bits .or .u64 (bits .or .u64 s (e * 4)) (g * 8)) (lo * 65536)) (hi * 1099511627776) = s + e * 4 + g * 8 + lo * 65536 + hi * 1099511627776 := by
  have a1 := or_join s e 2 4 (by decide) s0 (by omega) e0 (by omega)
  have a2 := or_join (s + e * 4) g 3 8 (by decide) (by omega) (by omega) g0 (by omega)
  have a3 := or_join (s + e * 4 + g * 8) lo 16 65536 (by decide) (by omega) (by omega) l0 (by omega)
  have a4 := or_join (s + e * 4 + g * 8 + lo * 65536) hi 40 1099511627776 (by decide) (by omega) (by omega) i0 (by omega)
  rw [show ((4 : Nat) : Int) = 4 from rfl] at a1
  rw [show ((8 : Nat) : Int) = 8 from rfl] at a2
  rw [show ((65536 : Nat) : Int) = 65536 from rfl] at a3
  rw [show ((1099511627776 : Nat) : Int) = 1099511627776 from rfl] at a4
  rw [a1, a2, a3, a4]

set_option maxHeartbeats 400000 in
theorem word_pack (w : World) (v : Wd) (hv : v.Ok) :
    Calls Try.prog 33 #[.agg #[.int .i64 v.st, .int .i64 v.en, .int .i64 v.gen, .int .i64 v.lo, .int .i64 v.hi]] w fun e w' => e = .returned (.int .u64 v.pack) ∧ Frm [] w w' := by
  have HV := Lib.hid hv
  obtain ⟨s, e, g, lo, hi⟩ := v
  obtain ⟨s0, s1, e0, e1, g0, g1, l0, l1, i0, i1⟩ := hv
  simp only at s0 s1 e0 e1 g0 g1 l0 l1 i0 i1
  have HP := Lib.hid (pack_bits s e g lo hi s0 s1 e0 e1 g0 g1 l0 l1 i0 i1)
  go_enter Try.func33, Try.ntmps33
  go_wp2_with (go_at_call 62; refine (word_right _ ⟨s, e, g, lo, hi⟩ HV.out).mono ?_; rintro e w' ⟨rfl, h⟩; obtain ⟨hc, hf, hz⟩ := frm_rules h)
  go_ret
  exact ⟨by rw [Wd.pack, ← HP.out]; rfl, (Frm.alloc _ _ _).tr h⟩

theorem word_taken (w : World) (s e g lo hi : Int) :
    Calls Try.prog 32 #[.agg #[.int .i64 s, .int .i64 e, .int .i64 g, .int .i64 lo, .int .i64 hi]] w fun r w' => r = .returned (.agg #[.int .i64 2, .int .i64 e, .int .i64 g, .int .i64 lo, .int .i64 hi]) ∧ Frm [] w w' := by
  go_enter Try.func32, Try.ntmps32
  go_wp2
  refine bodyPost_ret (v := .agg #[.int .i64 2, .int .i64 e, .int .i64 g, .int .i64 lo, .int .i64 hi]) (by simp [results, Try.results32, go_sem]) rfl ⟨rfl, ?_⟩
  exact (Frm.alloc _ _ _).tr (Frm.alloc _ _ _)

theorem word_next (w : World) (s e g lo hi en lo2 hi2 : Int) (h0 : 0 ≤ g) (h1 : g ≤ 8191) :
    Calls Try.prog 76 #[.agg #[.int .i64 s, .int .i64 e, .int .i64 g, .int .i64 lo, .int .i64 hi], .int .i64 en, .agg #[.int .i64 lo2, .int .i64 hi2]] w fun r w' => r = .returned (.agg #[.int .i64 1, .int .i64 en, .int .i64 (g + 1), .int .i64 lo2, .int .i64 hi2]) ∧ Frm [] w w' := by
  go_enter Try.func76, Try.ntmps76
  go_wp2
  refine bodyPost_ret (v := .agg #[.int .i64 1, .int .i64 en, .int .i64 (g + 1), .int .i64 lo2, .int .i64 hi2]) (by simp [results, Try.results76, go_sem]) rfl ⟨rfl, ?_⟩
  exact ((Frm.alloc _ _ _).tr (Frm.alloc _ _ _)).tr (Frm.alloc _ _ _)

end Go.Proofs.Ytkcimjcmlibgpaa
