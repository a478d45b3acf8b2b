/-
  The row of the places, when one of them is taken: the others stand as they did. No condition but the place's.
-/
import Derived.Test.YtkcimjcmlibgpaaRunA
namespace Go.Proofs.Ytkcimjcmlibgpaa

theorem taken_st (x : Int) : (unpk ((unpk x).taken.pack)).st = 2 := by rw [unpk_pack _ (unpk_taken_ok x)]; rfl

theorem thAt_set (words : List Int) (z : Nat) (y : Int) (k : Nat) (h : k ≠ z) : thAt (words.set z y) k = thAt words k := by
  unfold thAt; rw [getD_set, if_neg (fun e => h e.1)]

theorem things_set (words : List Int) (z : Nat) (y : Int) (hz : z < words.length) (hy : (unpk y).st ≠ 1) (k : Nat) : things (words.set z y) k = (things words k).filter fun t => decide (t.slot ≠ z) := by
  induction k with
  | zero => rfl
  | succ k ih =>
    rw [things_succ, things_succ, List.filter_append, ih]
    congr 1
    by_cases h : k = z
    · subst h
      have e : (words.set k y).getD k 0 = y := by rw [getD_set, if_pos ⟨rfl, hz⟩]
      rw [e, if_neg hy]
      split <;> simp [thAt]
    · have e : (words.set z y).getD k 0 = words.getD k 0 := by rw [getD_set, if_neg (fun e => h e.1)]
      rw [e, thAt_set _ _ _ _ h]
      split
      · simp [thAt, h]
      · rfl

theorem rowW_nodup (words : List Int) : (rowW words).Nodup := by
  unfold rowW
  exact ((sortT_perm _).map Th.slot).nodup_iff.2 (things_nodup words words.length)

theorem rowW_set (words : List Int) (z : Nat) (y : Int) (hz : z < words.length) (hy : (unpk y).st ≠ 1) : rowW (words.set z y) = (rowW words).filter fun s => decide (s ≠ z) := by
  unfold rowW
  have e : sortT (things (words.set z y) words.length) = (sortT (things words words.length)).filter fun t => decide (t.slot ≠ z) := by
    have hn := things_nodup words words.length
    apply perm_unique (fun a b => aheadT a b = true) (fun a b h h' => by rw [aheadT_asymm a b h] at h'; simp at h')
    · refine (sortT_perm _).trans ?_
      rw [things_set words z y hz hy]
      exact ((sortT_perm _).filter _).symm
    · apply sortT_sorted
      · exact things_en _ _
      · exact things_nodup _ _
    · exact (sortT_sorted _ (things_en _ _) hn).filter _
  rw [List.length_set, e, List.filter_map]
  rfl

theorem rowW_mem (words : List Int) (z : Nat) : z ∈ rowW words ↔ z < words.length ∧ (unpk (words.getD z 0)).st = 1 := by
  unfold rowW
  rw [List.mem_map]
  constructor
  · rintro ⟨t, ht, rfl⟩
    have := (sortT_perm _).mem_iff.1 ht
    unfold things at this
    obtain ⟨h1, h2⟩ := List.mem_filter.1 this
    obtain ⟨k, hk, rfl⟩ := List.mem_map.1 h1
    exact ⟨List.mem_range.1 hk, by simpa [thAt] using h2⟩
  · rintro ⟨h1, h2⟩
    refine ⟨thAt words z, (sortT_perm _).mem_iff.2 ?_, rfl⟩
    unfold things
    exact List.mem_filter.2 ⟨List.mem_map.2 ⟨z, List.mem_range.2 h1, rfl⟩, by simpa [thAt] using h2⟩

/-- The row without what stands at an end. -/
def cutR (row : List Nat) (en : Int) : List Nat := if en = 0 then row.tail else row.dropLast

theorem filter_ne_head {a : Nat} {l : List Nat} (h : (a :: l).Nodup) : (a :: l).filter (fun s => decide (s ≠ a)) = l := by
  rw [List.filter_cons]
  simp only [ne_eq, not_true, decide_false, Bool.false_eq_true, if_false]
  rw [List.filter_eq_self]
  intro s hs
  have := (List.nodup_cons.1 h).1
  simp only [decide_eq_true_eq]
  rintro rfl; exact this hs
theorem filter_ne_last {a : Nat} {l : List Nat} (h : (l ++ [a]).Nodup) : (l ++ [a]).filter (fun s => decide (s ≠ a)) = l := by
  rw [List.filter_append]
  have e1 : [a].filter (fun s => decide (s ≠ a)) = [] := by simp
  rw [e1, List.append_nil, List.filter_eq_self]
  intro s hs
  have := List.nodup_append.1 h
  simp only [decide_eq_true_eq]
  exact this.2.2 s hs a (by simp)

/-- What stands at an end was taken: the row is one shorter there. -/
theorem rowW_taken (words : List Int) (en : Int) (z : Nat) (x : Int) (hz : atR (rowW words) en = (z : Int)) : rowW (words.set z ((unpk x).taken.pack)) = cutR (rowW words) en := by
  have hm : z ∈ rowW words := by
    rcases atR_mem (rowW words) en with ⟨h, _⟩ | ⟨z', h, hm⟩
    · omega
    · have : z = z' := by omega
      subst this; exact hm
  have hl := ((rowW_mem words z).1 hm).1
  rw [rowW_set words z _ hl (by rw [taken_st]; decide)]
  have hn := rowW_nodup words
  generalize rowW words = R at *
  unfold cutR
  cases R with
  | nil => simp at hm
  | cons a l =>
    simp only [atR] at hz
    by_cases he : en = 0
    · rw [if_pos he] at hz ⊢
      obtain rfl : a = z := by omega
      exact filter_ne_head hn
    · rw [if_neg he] at hz ⊢
      have h2 : (a :: l).getLast (by simp) = z := by omega
      have h3 := List.dropLast_concat_getLast (show a :: l ≠ [] by simp)
      rw [h2] at h3
      rw [← h3] at hn
      conv => lhs; rw [← h3]
      exact filter_ne_last hn

end Go.Proofs.Ytkcimjcmlibgpaa
