/-
  What the laws of layer 11 make their inputs of: a layout, an end, a word. No condition.
-/
import Derived.Test.YtkcimjcmlibgpaaMemNew
namespace Go.Proofs.Ytkcimjcmlibgpaa
open Go.RowKit

theorem i64_mask (n : Int) (k m : Nat) (hm : m + 1 = 2 ^ k) (hk : k ≤ 62) : bits .and .i64 n (m : Int) = n % ((m + 1 : Nat) : Int) := by
  have hlt : m < 2 ^ 64 := by
    have : 2 ^ k ≤ 2 ^ 62 := Nat.pow_le_pow_right (by decide) hk
    omega
  have hmm : (BitVec.ofInt 64 (m : Int)).toNat = 2 ^ k - 1 := by
    rw [BitVec.toNat_ofInt]
    omega
  have key : (BitVec.ofInt 64 n &&& BitVec.ofInt 64 (m : Int)).toNat = (n % ((2 ^ 64 : Nat) : Int)).toNat % 2 ^ k := by
    rw [BitVec.toNat_and, BitVec.toNat_ofInt, hmm, Nat.and_two_pow_sub_one_eq_mod]
  show IntKind.i64.wrap ((BitVec.ofInt 64 n &&& BitVec.ofInt 64 (m : Int)).toNat : Nat) = _
  rw [key, hm, IntKind.wrap_i64]
  have hd : (2 ^ k : Nat) ∣ 2 ^ 64 := Nat.pow_dvd_pow 2 (by omega)
  have h1 : (((n % ((2 ^ 64 : Nat) : Int)).toNat % 2 ^ k : Nat) : Int) = n % ((2 ^ k : Nat) : Int) := by
    rw [Int.natCast_emod, Int.toNat_of_nonneg (Int.emod_nonneg _ (by decide))]
    exact Int.emod_emod_of_dvd n (Int.natCast_dvd_natCast.2 hd)
  rw [h1]
  have h2 : 0 ≤ n % ((2 ^ k : Nat) : Int) := Int.emod_nonneg _ (by have := Nat.pos_of_ne_zero (show 2 ^ k ≠ 0 from by have := Nat.two_pow_pos k; omega); omega)
  have h3 : n % ((2 ^ k : Nat) : Int) < ((2 ^ k : Nat) : Int) := Int.emod_lt_of_pos _ (by have := Nat.two_pow_pos k; omega)
  have h4 : 2 ^ k ≤ 2 ^ 62 := Nat.pow_le_pow_right (by decide) hk
  omega
theorem i64_3 (n : Int) : bits .and .i64 n 3 = n % 4 := i64_mask n 2 3 (by decide) (by decide)
theorem i64_7 (n : Int) : bits .and .i64 n 7 = n % 8 := i64_mask n 3 7 (by decide) (by decide)
theorem i64_15 (n : Int) : bits .and .i64 n 15 = n % 16 := i64_mask n 4 15 (by decide) (by decide)
theorem i64_ffff (n : Int) : bits .and .i64 n 65535 = n % 65536 := i64_mask n 16 65535 (by decide) (by decide)

def srcOf (source : Int) : Int := IntKind.u64.wrap source % 5
/-- A layout, small and right. -/
def confC (threads slots source delay : Int) : Cf := ⟨(1 + threads % 4).toNat, (1 + slots % 4).toNat, srcOf source, delay % 4⟩

theorem agg4_eq {a b c d a' b' c' d' : Int} (h1 : a = a') (h2 : b = b') (h3 : c = c') (h4 : d = d') :
    Ending.returned (.agg #[.int .i64 a, .int .i64 b, .int .i64 c, .int .i64 d]) = .returned (.agg #[.int .i64 a', .int .i64 b', .int .i64 c', .int .i64 d']) := by
  subst h1 h2 h3 h4; rfl

set_option maxHeartbeats 400000 in
theorem law_conf (w : World) (threads slots source delay : Int) :
    Calls Try.prog 14 #[.int .i64 threads, .int .i64 slots, .int .i64 source, .int .i64 delay] w fun e w' =>
      e = .returned (.agg #[.int .i64 (confC threads slots source delay).t, .int .i64 (confC threads slots source delay).s, .int .i64 (confC threads slots source delay).src, .int .i64 (confC threads slots source delay).del]) ∧ Frm [] w w' := by
  have e1 := i64_3 threads
  have e2 := i64_3 slots
  have e3 := i64_3 delay
  have b1 : 0 ≤ threads % 4 ∧ threads % 4 ≤ 3 := by omega
  have b2 : 0 ≤ slots % 4 ∧ slots % 4 ≤ 3 := by omega
  obtain ⟨u0, u1⟩ := u64_nn source
  have e4 : (IntKind.u64.wrap source).tmod 5 = srcOf source := by rw [Int.tmod_eq_emod_of_nonneg u0]; rfl
  have e5 : 0 ≤ srcOf source ∧ srcOf source < 5 := by unfold srcOf; omega
  have e6 : IntKind.i64.wrap (srcOf source) = srcOf source := w64 (by omega) (by omega)
  have e7 : IntKind.u64.wrap (srcOf source) = srcOf source := IntWalk.u64_in _ (by omega)
  clear u1
  obtain ⟨U, hU⟩ : ∃ U, IntKind.u64.wrap source = U := ⟨_, rfl⟩
  rw [hU] at u0 e4
  go_enter Try.func14, Try.ntmps14
  go_wp2
  refine bodyPost_ret (v := .agg #[.int .i64 (1 + threads % 4), .int .i64 (1 + slots % 4), .int .i64 (srcOf source), .int .i64 (delay % 4)]) (by simp [results, Try.results14, go_sem]) rfl ⟨?_, Frm.alloc _ _ _⟩
  exact agg4_eq (by simp only [confC]; omega) (by simp only [confC]; omega) rfl rfl

theorem law_end (w : World) (b : Bool) :
    Calls Try.prog 19 #[.bool b] w fun e w' => e = .returned (.int .i64 (if b then 1 else 0)) ∧ w = w' := by
  cases b
  all_goals
    go_enter Try.func19, Try.ntmps19
    go_wp2
    go_ret
    exact ⟨rfl, rfl⟩

/-- Something in a place. -/
structure Thg where
  state : Int
  gen : Int
  pos : Int
  wide : Int
  right : Bool
  value : Int

def Thg.vals (t : Thg) : List Value := [.int .i64 t.state, .int .i64 t.gen, .int .i64 t.pos, .int .i64 t.wide, .bool t.right, .int .u64 t.value]
def Thg.word (t : Thg) : Wd := ⟨IntKind.u64.wrap t.state % 3, if t.right = true then 1 else 0, 1 + t.gen % 8, t.pos % 16, t.pos % 16 + t.wide % 4⟩
theorem Thg.word_ok (t : Thg) : t.word.Ok := by
  obtain ⟨u0, u1⟩ := u64_nn t.state
  constructor <;> simp only [Thg.word] <;> (try split) <;> omega

set_option maxHeartbeats 400000 in
theorem law_word (w : World) (t : Thg) :
    Calls Try.prog 37 #[.agg #[.int .i64 t.state, .int .i64 t.gen, .int .i64 t.pos, .int .i64 t.wide, .bool t.right, .int .u64 t.value]] w fun e w' =>
      e = .returned (.agg #[.int .i64 t.word.st, .int .i64 t.word.en, .int .i64 t.word.gen, .int .i64 t.word.lo, .int .i64 t.word.hi]) ∧ Frm [] w w' := by
  obtain ⟨state, gen, pos, wide, right, value⟩ := t
  simp only [Thg.word]
  have e1 := i64_15 pos
  have e2 := i64_7 gen
  have e3 := i64_3 wide
  have b1 : 0 ≤ pos % 16 ∧ pos % 16 ≤ 15 := by omega
  have b2 : 0 ≤ gen % 8 ∧ gen % 8 ≤ 7 := by omega
  have b3 : 0 ≤ wide % 4 ∧ wide % 4 ≤ 3 := by omega
  obtain ⟨u0, u1⟩ := u64_nn state
  have e4 : (IntKind.u64.wrap state).tmod 3 = IntKind.u64.wrap state % 3 := Int.tmod_eq_emod_of_nonneg u0
  have e5 : 0 ≤ IntKind.u64.wrap state % 3 ∧ IntKind.u64.wrap state % 3 < 3 := by omega
  clear u1
  obtain ⟨U, hU⟩ : ∃ U, IntKind.u64.wrap state = U := ⟨_, rfl⟩
  rw [hU] at u0 e4 e5
  rw [hU]
  obtain ⟨V, hV⟩ : ∃ V, U % 3 = V := ⟨_, rfl⟩
  rw [hV] at e4 e5
  have HV := Lib.hid hV
  have e6 : IntKind.i64.wrap V = V := w64 (by omega) (by omega)
  have e7 : IntKind.u64.wrap V = V := IntWalk.u64_in _ (by omega)
  clear hV
  cases right
  all_goals
    go_enter Try.func37, Try.ntmps37
    go_wp2
  · refine bodyPost_ret (v := .agg #[.int .i64 V, .int .i64 0, .int .i64 (1 + gen % 8), .int .i64 (pos % 16), .int .i64 (pos % 16 + wide % 4)]) (by simp [results, Try.results37, go_sem]) rfl ⟨?_, ((Frm.alloc _ _ _).tr (Frm.alloc _ _ _)).tr (Frm.alloc _ _ _)⟩
    exact agg5_eq HV.out.symm rfl rfl rfl rfl
  · refine bodyPost_ret (v := .agg #[.int .i64 V, .int .i64 1, .int .i64 (1 + gen % 8), .int .i64 (pos % 16), .int .i64 (pos % 16 + wide % 4)]) (by simp [results, Try.results37, go_sem]) rfl ⟨?_, ((Frm.alloc _ _ _).tr (Frm.alloc _ _ _)).tr (Frm.alloc _ _ _)⟩
    exact agg5_eq HV.out.symm rfl rfl rfl rfl

end Go.Proofs.Ytkcimjcmlibgpaa
