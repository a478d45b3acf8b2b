/-
  Plain facts on what the laws of layer 11 make: the layout's numbers, the thread, the cells. No condition.
-/
import Derived.Test.YtkcimjcmlibgpaaOpen
namespace Go.Proofs.Ytkcimjcmlibgpaa
open Go.RowKit

theorem conf_t (a b c d : Int) : 1 ≤ (confC a b c d).t ∧ (confC a b c d).t ≤ 4 := by unfold confC; simp only; omega
theorem conf_s (a b c d : Int) : 1 ≤ (confC a b c d).s ∧ (confC a b c d).s ≤ 4 := by unfold confC; simp only; omega

/-- Which thread. -/
def whoN (who : Int) (t : Nat) : Nat := (who % 65536 % (t : Int)).toNat
theorem who_rem (who : Int) (t : Nat) (ht : 1 ≤ t) : (bits .and .i64 who 65535).tmod (t : Int) = (whoN who t : Int) := by
  rw [i64_ffff, Int.tmod_eq_emod_of_nonneg (by omega)]
  unfold whoN
  rw [Int.toNat_of_nonneg (Int.emod_nonneg _ (by omega))]
theorem who_lt (who : Int) (t : Nat) (ht : 1 ≤ t) : whoN who t < t := by
  unfold whoN
  have h1 : 0 ≤ who % 65536 % (t : Int) := Int.emod_nonneg _ (by omega)
  have h2 : who % 65536 % (t : Int) < (t : Int) := Int.emod_lt_of_pos _ (by omega)
  omega

theorem cellsK_at (n : Nat) (l : List Thg) (m : MemS) (hm : 2 * n ≤ m.cells.length) (k : Nat) (hk : k ≤ n) (j : Nat) :
    (cellsK n l m k).at j = if j < k then (l.getD j Thg.zero).word.pack else if n ≤ j ∧ j < n + k then (l.getD (j - n) Thg.zero).value else m.at j := by
  induction k with
  | zero => 
    rw [if_neg (by omega), if_neg (by omega)]; rfl
  | succ k ih =>
    have hl := (cellsK_len n l m k).1
    have h1 := ih (by omega)
    unfold cellsK
    rw [put_at _ _ _ _ _ _ _ (by rw [put_cells_len]; omega), put_at _ _ _ _ _ _ _ (by omega), h1]
    by_cases a : j = n + k
    · subst a
      rw [if_pos rfl, if_neg (show ¬ n + k < k + 1 by omega), if_pos (show n ≤ n + k ∧ n + k < n + (k + 1) by omega), show n + k - n = k by omega]
    · rw [if_neg a]
      by_cases b : j = k
      · subst b; rw [if_pos rfl, if_pos (show j < j + 1 by omega)]
      · rw [if_neg b]
        by_cases c : j < k
        · rw [if_pos c, if_pos (show j < k + 1 by omega)]
        · rw [if_neg c, if_neg (show ¬ j < k + 1 by omega)]
          by_cases d : n ≤ j ∧ j < n + k
          · rw [if_pos d, if_pos (show n ≤ j ∧ j < n + (k + 1) by omega)]
          · rw [if_neg d, if_neg (show ¬ (n ≤ j ∧ j < n + (k + 1)) by omega)]

theorem mem0_at (n t j : Nat) : (mem0 n t).at j = 0 := by
  unfold MemS.at mem0
  rw [List.getD_eq_getElem?_getD, List.getElem?_replicate]
  split <;> rfl
theorem cellsT_len (n t : Nat) (l : List Thg) : (cellsT n t l).cells.length = 2 * n + 2 * t := by
  unfold cellsT; rw [(cellsK_len _ _ _ _).1]; simp [mem0]
theorem cellsT_log (n t : Nat) (l : List Thg) : (cellsT n t l).log.length = 2 * min n l.length := by
  unfold cellsT; rw [(cellsK_len _ _ _ _).2]; simp [mem0]
theorem cellsT_at (n t : Nat) (l : List Thg) (j : Nat) :
    (cellsT n t l).at j = if j < min n l.length then (l.getD j Thg.zero).word.pack else if n ≤ j ∧ j < n + min n l.length then (l.getD (j - n) Thg.zero).value else 0 := by
  unfold cellsT
  rw [cellsK_at n l _ (by simp [mem0]) _ (by omega), mem0_at]
theorem cellsT_rest (n t : Nat) (l : List Thg) (j : Nat) (h : 2 * n ≤ j) : (cellsT n t l).at j = 0 := by
  rw [cellsT_at, if_neg (by omega), if_neg (by omega)]
theorem cellsT_fits (c : Cf) (n : Nat) (l : List Thg) (hn : n = c.t * c.s) (t0 : 1 ≤ c.t) (t1 : c.t ≤ 64) (s0 : 1 ≤ c.s) (s1 : c.s ≤ 64) : Fits c n (cellsT n c.t l) :=
  ⟨hn, t0, t1, s0, s1, cellsT_len n c.t l⟩

theorem rowW_len (words : List Int) : (rowW words).length ≤ words.length := by
  unfold rowW; rw [List.length_map, (sortT_perm _).length_eq]; exact things_le _ _

/-- Words that lie in a row of the call's own can be read. -/
theorem own_rd {w : World} {g n cap : Nat} {words : List Int} (h : w.ownsRow 0 43 1 (.slice (some ⟨g, 0, none⟩) n cap) n (wvals words)) : RdW w g words := by
  refine ⟨(h.lt g rfl).2, fun k hk => ?_⟩
  have := h.cells (g := g) rfl k (.int .u64 (words.getD k 0)) (by simp [wvals, List.getD, hk])
  rw [Addr.add_lit] at this
  simpa using this
/-- Numbers that lie in a row of the call's own can be read. -/
theorem own_at {w : World} {g n cap : Nat} {e : TypeId} {xs : List Value} (h : w.ownsRow 0 e 1 (.slice (some ⟨g, 0, none⟩) n cap) n xs) (k : Nat) (hk : k < xs.length) : w.cell? ⟨g, k, none⟩ = some xs[k] := by
  have := h.cells (g := g) rfl k xs[k] (List.getElem?_eq_getElem hk)
  rw [Addr.add_lit] at this
  simpa using this

/-- A row of the call's own, as something in memory. -/
def ownP (e : TypeId) (size : Nat) (v : Value) (n : Nat) (xs : List Value) : HP where
  on w F := w.ownsRow 0 e size v n xs ∧ F = fun k => v.ownBlock = some k
  lt := by rintro w F ⟨h, rfl⟩ k hk; exact (h.lt k hk).2
  keep := by
    rintro w w' F ⟨h, rfl⟩ hs
    refine ⟨⟨h.1, ?_⟩, rfl⟩
    rcases h.2 with hn | ⟨g, cap, cur, rfl, hb, hgg, rest⟩
    · exact .inl hn
    · exact .inr ⟨g, cap, cur, rfl, hb, by rw [hs g rfl]; exact hgg, rest⟩

theorem St.own {W0 w : World} {e : TypeId} {size : Nat} {v : Value} {n : Nat} {xs : List Value} {R : HP} (h : St W0 w (ownP e size v n xs * R)) : w.ownsRow 0 e size v n xs := by
  obtain ⟨F, ⟨A, B, ⟨h1, _⟩, _⟩, _⟩ := h; exact h1

end Go.Proofs.Ytkcimjcmlibgpaa
