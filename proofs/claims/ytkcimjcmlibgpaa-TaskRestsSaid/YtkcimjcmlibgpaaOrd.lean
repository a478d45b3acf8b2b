/-
  The order in which things stand: plain Lean, no program. Conditions: the things' places are distinct.
-/
import Derived.Test.YtkcimjcmlibgpaaPickA
namespace Go.Proofs.Ytkcimjcmlibgpaa

theorem cmpI_neg {x y : Int} : cmpI x y < 0 ↔ x < y := by
  unfold cmpI; split
  · simp [*]
  · split
    · simp [*]
    · simp; omega
theorem cmpI_zero {x y : Int} : cmpI x y = 0 ↔ x = y := by
  unfold cmpI; split
  · simp; omega
  · split
    · simp; omega
    · simp; omega
theorem cmpTh_neg (x y : Th) : cmpTh x y < 0 ↔ x.w.lo < y.w.lo ∨ (x.w.lo = y.w.lo ∧ (x.w.hi < y.w.hi ∨ (x.w.hi = y.w.hi ∧ x.slot < y.slot))) := by
  unfold cmpTh cmpSt orI
  by_cases h1 : cmpI x.w.lo y.w.lo = 0
  · rw [if_pos h1]
    have e1 := cmpI_zero.1 h1
    by_cases h2 : cmpI x.w.hi y.w.hi = 0
    · rw [if_pos h2, cmpI_neg]
      have e2 := cmpI_zero.1 h2
      omega
    · rw [if_neg h2, cmpI_neg]
      have e2 : ¬ x.w.hi = y.w.hi := fun h => h2 (cmpI_zero.2 h)
      omega
  · have e1 : ¬ x.w.lo = y.w.lo := fun h => h1 (cmpI_zero.2 h)
    rw [if_neg h1]
    rw [if_neg h1, cmpI_neg]
    omega

/-- Does one stand left of another one? -/
def aheadT (a b : Th) : Bool :=
  if a.w.en = b.w.en then (if a.w.en = 0 then decide (cmpTh b a < 0) else decide (cmpTh a b < 0)) else decide (a.w.en = 0)

def insT (x : Th) : List Th → List Th
  | [] => [x]
  | y :: l => if aheadT y x = true then y :: insT x l else x :: y :: l
def sortT (l : List Th) : List Th := l.foldl (fun acc x => insT x acc) []

/-- The things in the first places, of their words. -/
def thAt (words : List Int) (k : Nat) : Th := ⟨k, unpk (words.getD k 0)⟩
def things (words : List Int) (k : Nat) : List Th := ((List.range k).map (thAt words)).filter fun x => x.w.st = 1
/-- The places in which something is, from left to right. -/
def rowW (words : List Int) : List Nat := (sortT (things words words.length)).map Th.slot

theorem things_succ (words : List Int) (k : Nat) : things words (k + 1) = things words k ++ if (unpk (words.getD k 0)).st = 1 then [thAt words k] else [] := by
  unfold things
  rw [List.range_succ, List.map_append, List.filter_append]
  congr 1
  simp only [List.map_cons, List.map_nil, List.filter_cons, List.filter_nil, thAt]
  split <;> simp_all

theorem insT_perm (x : Th) (l : List Th) : (insT x l).Perm (x :: l) := by
  induction l with
  | nil => exact List.Perm.refl _
  | cons y l ih =>
    unfold insT
    split
    · exact (List.Perm.cons y ih).trans (List.Perm.swap x y l)
    · exact List.Perm.refl _

theorem sortT_perm_aux (l : List Th) : ∀ acc, (l.foldl (fun acc x => insT x acc) acc).Perm (acc ++ l) := by
  induction l with
  | nil => intro acc; simp
  | cons x l ih =>
    intro acc
    simp only [List.foldl_cons]
    refine (ih _).trans ?_
    refine ((insT_perm x acc).append_right l).trans ?_
    simpa using (List.perm_middle (a := x) (l₁ := acc) (l₂ := l)).symm
theorem sortT_perm (l : List Th) : (sortT l).Perm l := by simpa [sortT] using sortT_perm_aux l []

theorem aheadT_asymm (a b : Th) (h : aheadT a b = true) : aheadT b a = false := by
  unfold aheadT at *
  by_cases he : a.w.en = b.w.en
  · rw [if_pos he] at h
    rw [if_pos he.symm]
    by_cases h0 : a.w.en = 0
    · rw [if_pos h0] at h
      rw [if_pos (by omega)]
      simp only [decide_eq_true_eq, decide_eq_false_iff_not, cmpTh_neg] at *; omega
    · rw [if_neg h0] at h
      rw [if_neg (by omega)]
      simp only [decide_eq_true_eq, decide_eq_false_iff_not, cmpTh_neg] at *; omega
  · rw [if_neg he] at h
    rw [if_neg (by omega)]
    simp only [decide_eq_true_eq, decide_eq_false_iff_not] at *; omega

/-- Ends are Left or Right alone. -/
def EnOk (a : Th) : Prop := a.w.en = 0 ∨ a.w.en = 1

theorem aheadT_total (a b : Th) (ha : EnOk a) (hb : EnOk b) (hs : a.slot ≠ b.slot) : aheadT a b = true ∨ aheadT b a = true := by
  unfold aheadT
  unfold EnOk at ha hb
  by_cases he : a.w.en = b.w.en
  · rw [if_pos he, if_pos he.symm]
    by_cases h0 : a.w.en = 0
    · rw [if_pos h0, if_pos (by omega)]
      simp only [decide_eq_true_eq, cmpTh_neg] at *; omega
    · rw [if_neg h0, if_neg (by omega)]
      simp only [decide_eq_true_eq, cmpTh_neg] at *; omega
  · rw [if_neg he, if_neg (by omega)]
    simp only [decide_eq_true_eq] at *; omega

theorem aheadT_trans (a b c : Th) (h1 : aheadT a b = true) (h2 : aheadT b c = true) : aheadT a c = true := by
  unfold aheadT at *
  by_cases he : a.w.en = b.w.en
  · rw [if_pos he] at h1
    by_cases he2 : b.w.en = c.w.en
    · rw [if_pos he2] at h2
      rw [if_pos (by omega)]
      by_cases h0 : a.w.en = 0
      · rw [if_pos h0] at h1 ⊢
        rw [if_pos (by omega)] at h2
        simp only [decide_eq_true_eq, cmpTh_neg] at *; omega
      · rw [if_neg h0] at h1 ⊢
        rw [if_neg (by omega)] at h2
        simp only [decide_eq_true_eq, cmpTh_neg] at *; omega
    · rw [if_neg he2] at h2
      rw [if_neg (by omega)]
      simp only [decide_eq_true_eq] at *; omega
  · rw [if_neg he] at h1
    simp only [decide_eq_true_eq] at h1
    by_cases he2 : b.w.en = c.w.en
    · rw [if_neg (by omega)]; simp only [decide_eq_true_eq]; omega
    · rw [if_neg he2] at h2
      simp only [decide_eq_true_eq] at h2
      omega

theorem insT_sorted (x : Th) (l : List Th) (hx : EnOk x) (hl : ∀ y ∈ l, EnOk y) (hd : ∀ y ∈ l, y.slot ≠ x.slot) (h : l.Pairwise fun a b => aheadT a b = true) :
    (insT x l).Pairwise fun a b => aheadT a b = true := by
  induction l with
  | nil => simp [insT]
  | cons y l ih =>
    rw [List.pairwise_cons] at h
    unfold insT
    split
    · rename_i hyx
      rw [List.pairwise_cons]
      refine ⟨fun z hz => ?_, ih (fun z hz => hl z (by simp [hz])) (fun z hz => hd z (by simp [hz])) h.2⟩
      rcases List.mem_cons.1 ((insT_perm x l).mem_iff.1 hz) with rfl | hz
      · exact hyx
      · exact h.1 z hz
    · rename_i hyx
      have hxy : aheadT x y = true := (aheadT_total x y hx (hl y (by simp)) (fun e => hd y (by simp) e.symm)).resolve_right hyx
      rw [List.pairwise_cons]
      refine ⟨fun z hz => ?_, List.pairwise_cons.2 h⟩
      rcases List.mem_cons.1 hz with rfl | hz
      · exact hxy
      · exact aheadT_trans x y z hxy (h.1 z hz)

theorem sortT_sorted_aux (l : List Th) : ∀ acc, (∀ y ∈ acc, EnOk y) → (∀ y ∈ l, EnOk y) → ((acc ++ l).map Th.slot).Nodup → acc.Pairwise (fun a b => aheadT a b = true) →
    (l.foldl (fun acc x => insT x acc) acc).Pairwise fun a b => aheadT a b = true := by
  induction l with
  | nil => intro acc _ _ _ h; simpa using h
  | cons x l ih =>
    intro acc ha hl hn h
    simp only [List.foldl_cons]
    have hx : ∀ y ∈ acc, y.slot ≠ x.slot := by
      intro y hy e
      rw [List.map_append, List.nodup_append] at hn
      exact hn.2.2 _ (List.mem_map_of_mem hy) _ (by simp) e
    refine ih _ (fun y hy => ?_) (fun y hy => hl y (by simp [hy])) ?_ (insT_sorted x acc (hl x (by simp)) ha hx h)
    · rcases List.mem_cons.1 ((insT_perm x acc).mem_iff.1 hy) with rfl | hy
      · exact hl y (by simp)
      · exact ha y hy
    · refine (List.Perm.nodup_iff ?_).1 hn
      refine List.Perm.map _ ?_
      refine (List.perm_middle (a := x) (l₁ := acc) (l₂ := l)).trans ?_
      exact ((insT_perm x acc).symm.append_right l)

theorem sortT_sorted (l : List Th) (hl : ∀ y ∈ l, EnOk y) (hn : (l.map Th.slot).Nodup) : (sortT l).Pairwise fun a b => aheadT a b = true :=
  sortT_sorted_aux l [] (by simp) hl (by simpa using hn) List.Pairwise.nil

theorem perm_unique {α : Type} (r : α → α → Prop) (hr : ∀ a b, r a b → ¬ r b a) : ∀ (l1 l2 : List α), l1.Perm l2 → l1.Pairwise r → l2.Pairwise r → l1 = l2
  | [], l2, hp, _, _ => (List.nil_perm.1 hp).symm
  | a :: l1, [], hp, _, _ => absurd hp.length_eq (by simp)
  | a :: l1, b :: l2, hp, h1, h2 => by
    rw [List.pairwise_cons] at h1 h2
    have ha : a ∈ b :: l2 := hp.mem_iff.1 (by simp)
    have hb : b ∈ a :: l1 := hp.mem_iff.2 (by simp)
    have e : a = b := by
      rcases List.mem_cons.1 ha with e | ha
      · exact e
      · rcases List.mem_cons.1 hb with e | hb
        · exact e.symm
        · exact absurd (h2.1 a ha) (hr b a |> fun f => fun h => f h (h1.1 b hb))
    subst e
    rw [perm_unique r hr l1 l2 (List.perm_cons a |>.1 hp) h1.2 h2.2]

theorem thAt_en (words : List Int) (k : Nat) : EnOk (thAt words k) := by
  unfold EnOk thAt unpk; simp only; omega
theorem things_en (words : List Int) (k : Nat) : ∀ y ∈ things words k, EnOk y := by
  intro y hy
  unfold things at hy
  obtain ⟨i, _, rfl⟩ := List.mem_map.1 (List.mem_filter.1 hy).1
  exact thAt_en words i
theorem things_nodup (words : List Int) (k : Nat) : ((things words k).map Th.slot).Nodup := by
  have h1 : (((List.range k).map (thAt words)).map Th.slot) = List.range k := by
    rw [List.map_map]; exact (List.map_congr_left (fun i _ => rfl)).trans (List.map_id _)
  have h2 : (things words k).Sublist ((List.range k).map (thAt words)) := List.filter_sublist
  exact List.Nodup.sublist (h2.map _) (by rw [h1]; exact List.nodup_range)

/-- Left ones and right ones, each sorted in their way, side by side: the order. -/
theorem order_unique (words : List Int) (k : Nat) (L' R' : List Th) (hL : L'.Perm ((things words k).filter fun x => x.w.en = 0)) (hR : R'.Perm ((things words k).filter fun x => ¬ x.w.en = 0))
    (sL : L'.Pairwise fun a b => ¬ cmpTh a b < 0) (sR : R'.Pairwise fun a b => ¬ cmpTh b a < 0) : L' ++ R' = sortT (things words k) := by
  have hT : (L' ++ R').Perm (things words k) := (hL.append hR).trans (List.filter_append_perm (fun x : Th => decide (x.w.en = 0)) (things words k) |> fun h => by simpa using h)
  have hnd : ((L' ++ R').map Th.slot).Nodup := (List.Perm.nodup_iff (hT.map _)).2 (things_nodup words k)
  have hen : ∀ y ∈ L' ++ R', EnOk y := fun y hy => things_en words k y (hT.mem_iff.1 hy)
  have l0 : ∀ y ∈ L', y.w.en = 0 := fun y hy => by simpa using (List.mem_filter.1 (hL.mem_iff.1 hy)).2
  have r0 : ∀ y ∈ R', ¬ y.w.en = 0 := fun y hy => by simpa using (List.mem_filter.1 (hR.mem_iff.1 hy)).2
  rw [List.map_append, List.nodup_append] at hnd
  have dl : L'.Pairwise fun a b => a.slot ≠ b.slot := List.pairwise_map.1 hnd.1
  have dr : R'.Pairwise fun a b => a.slot ≠ b.slot := List.pairwise_map.1 hnd.2.1
  refine perm_unique (fun a b => aheadT a b = true) (fun a b h => by rw [aheadT_asymm a b h]; simp) _ _ (hT.trans (sortT_perm _).symm) ?_ (sortT_sorted _ (things_en words k) (things_nodup words k))
  rw [List.pairwise_append]
  refine ⟨?_, ?_, ?_⟩
  · refine (sL.and dl).imp_of_mem ?_
    intro a b ha hb h
    unfold aheadT
    rw [if_pos (by rw [l0 a ha, l0 b hb]), if_pos (l0 a ha)]
    obtain ⟨h1, h2⟩ := h
    simp only [decide_eq_true_eq, cmpTh_neg] at *; omega
  · refine (sR.and dr).imp_of_mem ?_
    intro a b ha hb h
    have e1 := hen a (by simp [ha])
    have e2 := hen b (by simp [hb])
    have e3 := r0 a ha
    have e4 := r0 b hb
    unfold EnOk at e1 e2
    unfold aheadT
    rw [if_pos (by omega), if_neg e3]
    obtain ⟨h1, h2⟩ := h
    simp only [decide_eq_true_eq, cmpTh_neg] at *; omega
  · intro a ha b hb
    have e1 := l0 a ha
    have e4 := r0 b hb
    unfold aheadT
    rw [if_neg (by omega)]; simp [e1]

end Go.Proofs.Ytkcimjcmlibgpaa
