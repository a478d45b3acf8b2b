/-
  slices.SortFunc over things: what it leaves. Conditions: the things lie in a row of the program's own; fewer than 2^40.
-/
import Derived.Test.YtkcimjcmlibgpaaShelf
import Derived.Test.YtkcimjcmlibgpaaOrd
import Derived.Test.YtkcimjcmlibgpaaApp
import Derived.Sort.OwnSortedInts
namespace Go.Proofs.Ytkcimjcmlibgpaa
open Go.RowKit Go.Sort Go.Proofs

def rowT (l : List Th) : List Value := l.flatMap Th.enc
theorem enc_len (x : Th) : x.enc.length = 6 := rfl
theorem rowT_len (l : List Th) : (rowT l).length = l.length * 6 := by
  induction l with
  | nil => rfl
  | cons x l ih => simp only [rowT, List.flatMap_cons, List.length_append, List.length_cons] at *; rw [ih, enc_len]; omega
theorem rowT_append (l m : List Th) : rowT (l ++ m) = rowT l ++ rowT m := by simp [rowT]
theorem rowT_get (l : List Th) : ∀ t, t < l.length * 6 → (rowT l)[t]? = some ((l[t / 6]!).enc[t % 6]!) := by
  induction l with
  | nil => intro t h; simp at h
  | cons x l ih =>
    intro t h
    simp only [List.length_cons] at h
    have e : rowT (x :: l) = x.enc ++ rowT l := by simp [rowT]
    rw [e]
    by_cases ht : t < 6
    · rw [List.getElem?_append_left (by rw [enc_len]; exact ht)]
      have h1 : t / 6 = 0 := by omega
      have h2 : t % 6 = t := by omega
      rw [h1, h2]
      have h3 : t < x.enc.length := by rw [enc_len]; exact ht
      rw [List.getElem?_eq_getElem h3]
      simp [h3]
    · rw [List.getElem?_append_right (by rw [enc_len]; omega), enc_len, ih (t - 6) (by omega)]
      have h1 : (t - 6) / 6 + 1 = t / 6 := by omega
      have h2 : (t - 6) % 6 = t % 6 := by omega
      rw [h2, ← h1]
      simp
theorem flat_row (l : List Th) : (flatK Th.enc 6 l.toArray).toList = rowT l := by
  apply List.ext_getElem?
  intro t
  by_cases ht : t < l.length * 6
  · rw [rowT_get l t ht]
    have h1 : t < (flatK Th.enc 6 l.toArray).size := by simpa using ht
    rw [Array.getElem?_toList, Array.getElem?_eq_getElem h1]
    have h2 := get_flatK Th.enc 6 l.toArray t (by simpa using ht)
    rw [getElem!_pos _ t h1] at h2
    rw [h2]
    simp
  · rw [List.getElem?_eq_none (by simp; omega), List.getElem?_eq_none (by rw [rowT_len]; omega)]

theorem holds_row {w : World} {g : Nat} {cur : Array Value} {e : TypeId} {l : List Th} (hb : w.heap[g]? = some (.cells cur e (0, 0))) (ht : cur.toList.take (l.length * 6) = rowT l) : HoldsK Th.enc 6 w g 0 l.toArray := by
  intro j hj
  have hj' : j < l.length * 6 := by simpa using hj
  refine ⟨?_, by simp [World.frozen?, hb]⟩
  have h1 : (cur.toList.take (l.length * 6))[j]? = (rowT l)[j]? := by rw [ht]
  rw [List.getElem?_take_of_lt hj', ← flat_row l] at h1
  simp only [World.cell?, hb, Nat.zero_add]
  simp only [Option.isSome_none, Bool.false_eq_true, if_false]
  rw [← Array.getElem?_toList, h1]
  have h2 : j < (flatK Th.enc 6 l.toArray).size := by simpa using hj'
  rw [Array.getElem?_toList, Array.getElem?_eq_getElem h2, getElem!_pos (flatK Th.enc 6 l.toArray) j h2]
  rfl

theorem heap_srt {w : World} {g n : Nat} {os : Array Obj} {cur : Array Value} {e : TypeId} {fr : Nat × Nat} (d : Array Value) (hb : w.heap[g]? = some (.cells cur e fr)) :
    (grow (putRow id (Sort.ahead w n) g 0 d) os).heap[g]? = some (.cells (putCells id 0 d cur) e fr) := by
  have hg : g < w.heap.size := (Array.getElem?_eq_some_iff.1 hb).1
  rw [heap_grow_old _ _ (by simpa using hg)]
  simp [putRow, mapBlock, Sort.ahead, Array.getElem?_modify, hb, onCells]
theorem frm_srt {w : World} {g n : Nat} {os : Array Obj} (d : Array Value) : Frm [g] w (grow (putRow id (Sort.ahead w n) g 0 d) os) := by
  refine ⟨rfl, rfl, rfl, by simp, fun k hk hne => ?_⟩
  rw [heap_grow_old _ _ (by simpa using hk)]
  have : g ≠ k := fun e => hne (by simp [e])
  simp [putRow, mapBlock, Sort.ahead, Array.getElem?_modify, this]
theorem take_put (cur : Array Value) (d : Array Value) (h : d.size ≤ cur.size) : (putCells id 0 d cur).toList.take d.size = d.toList := by
  apply List.ext_getElem?
  intro j
  by_cases hj : j < d.size
  · rw [List.getElem?_take_of_lt hj, Array.getElem?_toList]
    simp [putCells, hj, show j < cur.size by omega]
  · rw [List.getElem?_take_eq_none (by omega), List.getElem?_eq_none (by simp; omega)]

theorem ltOf_c (cf : Th → Th → Int) (x y : Th) : ltOf cf x y = decide (cf x y < 0) := rfl
theorem swo_up : SWO (ltOf cmpTh) where
  irrefl x := by rw [ltOf_c]; simp only [decide_eq_false_iff_not, cmpTh_neg]; omega
  trans x y z h1 h2 := by rw [ltOf_c] at *; simp only [decide_eq_true_eq, cmpTh_neg] at *; omega
  ntrans x y z h1 h2 := by rw [ltOf_c] at *; simp only [decide_eq_false_iff_not, cmpTh_neg] at *; omega
theorem swo_down : SWO (ltOf fun x y => cmpTh y x) where
  irrefl x := by rw [ltOf_c]; simp only [decide_eq_false_iff_not, cmpTh_neg]; omega
  trans x y z h1 h2 := by rw [ltOf_c] at *; simp only [decide_eq_true_eq, cmpTh_neg] at *; omega
  ntrans x y z h1 h2 := by rw [ltOf_c] at *; simp only [decide_eq_false_iff_not, cmpTh_neg] at *; omega

theorem lays_up (blk off size : Nat) (w : World) : CmpLays Try.prog 94 #[] Th.enc 6 cmpTh blk off size w :=
  fun _ _ _ _ x y => pick_compare _ x.slot x.w.st x.w.en x.w.gen x.w.lo x.w.hi y.slot y.w.st y.w.en y.w.gen y.w.lo y.w.hi |>.mono fun _ _ ⟨he, hg⟩ => ⟨he, hg⟩
theorem lays_down (blk off size : Nat) (w : World) : CmpLays Try.prog 93 #[] Th.enc 6 (fun x y => cmpTh y x) blk off size w :=
  fun _ _ _ _ x y => pick_desc _ x.slot x.w.st x.w.en x.w.gen x.w.lo x.w.hi y.slot y.w.st y.w.en y.w.gen y.w.lo y.w.hi |>.mono fun _ _ ⟨he, hg⟩ => ⟨he, hg⟩

theorem perm_of_in {d : List Th} {d' : Array Th} (h : PermIn 0 d.length d.toArray d') : d'.toList.Perm d := by
  obtain ⟨hs, _, hp⟩ := h
  have hs' : d'.size = d.length := by simpa using hs
  have e1 : d'.extract 0 d.length = d' := by rw [← hs']; simp
  have e2 : (d.toArray).extract 0 d.length = d.toArray := by simp
  rw [e1, e2] at hp
  simpa using hp
theorem pairwise_of_in {lt : Th → Th → Bool} {d' : Array Th} {n : Nat} (hn : d'.size = n) (h : SortedIn lt 0 n d') : d'.toList.Pairwise fun a b => lt b a = false := by
  rw [List.pairwise_iff_getElem]
  intro i j hi hj hij
  have hi' : i < d'.size := by simpa using hi
  have hj' : j < d'.size := by simpa using hj
  have := h i j (Nat.zero_le _) hij (by omega)
  rw [getElem!_pos d' j hj', getElem!_pos d' i hi'] at this
  simpa using this

theorem sort_wrap (cf : Th → Th → Int) (hO : SWO (ltOf cf)) (g : Nat) (eg : ∀ args w, (callFunc g args).run Try.prog w = .ok (.enter g args) w)
    (hc : ∀ blk off size w, CmpLays Try.prog g #[] Th.enc 6 cf blk off size w) (w : World) (v : Value) (l : List Th) (hown : w.ownsRow 0 142 6 v l.length (rowT l)) (hl : l.length < 1099511627776) :
    Calls Try.prog 92 #[v, .func (.func g) #[] #[]] w fun e w' => e = .returned (.tuple #[]) ∧
      ∃ l', l'.Perm l ∧ (l'.Pairwise fun a b => ¬ cf b a < 0) ∧ w'.ownsRow 0 142 6 v l'.length (rowT l') ∧ Frm v.ownBlock.toList w w' := by
  rcases hown.2 with ⟨rfl, h0⟩ | ⟨b, cap, cur, rfl, hb0, hb, hnc, hcm, hcs, htake⟩
  · have hl0 : l = [] := List.eq_nil_of_length_eq_zero h0
    subst hl0
    have hS := AnyF.slices_SortFunc_none (P := Try.prog) (ρ := Try.sortTh_ren) Try.sortTh none 0 (.func (.func g) #[] #[]) w
    change Calls Try.prog 92 _ _ _ at hS
    refine hS.mono ?_
    rintro e w' ⟨he, rfl⟩
    exact ⟨he, [], List.Perm.refl _, List.Pairwise.nil, hown, Frm.refl _ _⟩
  · have hlt : b < w.heap.size := (Array.getElem?_eq_some_iff.1 hb).1
    have hS := AnyQ.slices_SortFunc Try.sortTh 6 Try.isAgg142 Try.sizeOf142 Th.enc enc_len (fun x u hu => by simp [Th.enc] at hu; rcases hu with rfl | rfl | rfl | rfl | rfl | rfl <;> rfl) cf hO g #[] b 0 cap l.toArray w eg (hc _ _ _ _) (holds_row hb htake) hlt (by simpa using (by omega : l.length < 4611686018427387904))
    change Calls Try.prog 92 _ _ _ at hS
    simp only [List.size_toArray] at hS
    refine hS.mono ?_
    rintro e w' ⟨he, d', n, os, hp, hs, rfl⟩
    have hsz : d'.size = l.length := by simpa using hp.1
    have hpm := perm_of_in hp
    refine ⟨he, d'.toList, hpm, ?_, ?_, ?_⟩
    · refine (pairwise_of_in hsz hs).imp ?_
      intro x y h
      simpa [ltOf] using h
    · have e1 : (flatK Th.enc 6 d').toList = rowT d'.toList := by simpa using flat_row d'.toList
      have e2 : (flatK Th.enc 6 d').size = d'.toList.length * 6 := by simp
      refine ⟨by rw [rowT_len], .inr ⟨b, cap, _, by simp [hsz], Nat.zero_le _, heap_srt _ hb, by simpa [hsz] using hnc, hcm, by simp [putCells, hcs], ?_⟩⟩
      have := take_put cur (flatK Th.enc 6 d') (by rw [e2, hcs]; simp only [Array.length_toList, hsz]; exact Nat.mul_le_mul_right _ hnc)
      rw [e2, e1] at this
      exact this
    · exact frm_srt _

theorem sort_left (w : World) (v : Value) (l : List Th) (hown : w.ownsRow 0 142 6 v l.length (rowT l)) (hl : l.length < 1099511627776) :
    Calls Try.prog 92 #[v, .func (.func 93) #[] #[]] w fun e w' => e = .returned (.tuple #[]) ∧
      ∃ l', l'.Perm l ∧ (l'.Pairwise fun a b => ¬ cmpTh a b < 0) ∧ w'.ownsRow 0 142 6 v l'.length (rowT l') ∧ Frm v.ownBlock.toList w w' :=
  sort_wrap (fun x y => cmpTh y x) swo_down 93 (Go.Proofs.enters_of Try.func93 (by kernel_rfl) rfl) lays_down w v l hown hl
theorem sort_right (w : World) (v : Value) (l : List Th) (hown : w.ownsRow 0 142 6 v l.length (rowT l)) (hl : l.length < 1099511627776) :
    Calls Try.prog 92 #[v, .func (.func 94) #[] #[]] w fun e w' => e = .returned (.tuple #[]) ∧
      ∃ l', l'.Perm l ∧ (l'.Pairwise fun a b => ¬ cmpTh b a < 0) ∧ w'.ownsRow 0 142 6 v l'.length (rowT l') ∧ Frm v.ownBlock.toList w w' :=
  sort_wrap cmpTh swo_up 94 (Go.Proofs.enters_of Try.func94 (by kernel_rfl) rfl) lays_up w v l hown hl

end Go.Proofs.Ytkcimjcmlibgpaa
