/-
  The contracts that the laws use, over things side by side in memory. Each condition stands in its theorem.
-/
import Derived.Test.YtkcimjcmlibgpaaLawF
namespace Go.Proofs.Ytkcimjcmlibgpaa
open Go.RowKit

theorem St.of_mem {W0 w : World} {p : Nat} {F : List Nat} {m : MemS} (h : IsMem w p F m) (hF : ∀ k ∈ F, W0.heap.size ≤ k) (q : Frm [] W0 w) : St W0 w (memP p m) := ⟨_, ⟨F, h, rfl⟩, hF, q⟩

theorem cells_st {W0 w : World} {R : HP} (h : St W0 w R) (n ct cs : Nat) (src del : Int) (lv : Value) (l : List Thg) (hl : LstT w lv l) (hu : ∀ x ∈ l, U64 x.value) (hn : n = ct * cs) (ht0 : 1 ≤ ct) (ht : ct ≤ 64) (hs0 : 1 ≤ cs) (hs : cs ≤ 64) :
    Calls Try.prog 15 #[.agg #[.int .i64 ct, .int .i64 cs, .int .i64 src, .int .i64 del], lv] w fun e w' => ∃ p, e = .returned (.pointer (some ⟨p, 0, none⟩)) ∧ St W0 w' (memP p (cellsT n ct l) * R) := by
  refine (law_cells w n ct cs src del lv l hl hu hn ht0 ht hs0 hs).mono ?_
  rintro e w' ⟨p, F, he, hm, hF, q⟩
  exact ⟨p, he, h.make q ⟨F, hm, rfl⟩ hF⟩

theorem words_st {W0 w : World} {p n : Nat} {m : MemS} {R : HP} (h : St W0 w (memP p m * R)) {ct cs : Nat} {src del : Int} (hf : Fits ⟨ct, cs, src, del⟩ n m) :
    Calls Try.prog 17 #[.agg #[.int .i64 ct, .int .i64 cs, .int .i64 src, .int .i64 del], .pointer (some ⟨p, 0, none⟩)] w fun e w' =>
      ∃ g cap, e = .returned (.slice (some ⟨g, 0, none⟩) n cap) ∧ St W0 w' (ownP 43 1 (.slice (some ⟨g, 0, none⟩) n cap) n (wvals (m.words n)) * (memP p m * R)) := by
  obtain ⟨F, hm⟩ := h.mem
  refine (law_words w p n F m ct cs src del hm hf).mono ?_
  rintro e w' ⟨g, cap, he, hg, ho, q⟩
  refine ⟨g, cap, he, h.make q ⟨ho, rfl⟩ ?_⟩
  intro k hk
  simp only [Value.ownBlock, Option.some.injEq] at hk
  omega

def rvals (l : List Nat) : List Value := l.map fun s : Nat => Value.int .i64 (s : Int)

theorem row_st {W0 w : World} {g n cap : Nat} {words : List Int} {R : HP} (h : St W0 w (ownP 43 1 (.slice (some ⟨g, 0, none⟩) n cap) n (wvals words) * R)) (hl : words.length = n) (hn : n ≤ 4096) (hu : ∀ x ∈ words, U64 x) :
    Calls Try.prog 16 #[.slice (some ⟨g, 0, none⟩) n cap] w fun e w' =>
      ∃ b c, e = .returned (.slice (some ⟨b, 0, none⟩) (rowW words).length c) ∧ St W0 w' (ownP 3 1 (.slice (some ⟨b, 0, none⟩) (rowW words).length c) (rowW words).length (rvals (rowW words)) * (ownP 43 1 (.slice (some ⟨g, 0, none⟩) n cap) n (wvals words) * R)) := by
  refine (law08_row w g n cap words (own_rd h.own) hl hn hu).mono ?_
  rintro e w' ⟨b, c, he, hb, ho, q⟩
  refine ⟨b, c, he, h.make q ⟨ho, rfl⟩ ?_⟩
  intro k hk
  simp only [Value.ownBlock, Option.some.injEq] at hk
  omega

theorem getNew_st {W0 w : World} {R : HP} (h : St W0 w R) (ct cs who n : Nat) (src del en start : Int) (ht : ct ≤ 64) (hs : cs ≤ 64) (hn : n = ct * cs) (hn0 : 1 ≤ n) :
    Calls Try.prog 18 #[.agg #[.int .i64 ct, .int .i64 cs, .int .i64 src, .int .i64 del], .int .i64 who, .int .i64 en, .int .i64 start] w fun e w' =>
      ∃ gb, e = .returned (.pointer (some ⟨gb, 0, none⟩)) ∧ St W0 w' (getP gb (get0 ⟨ct, cs, src, del⟩ who n en start) * R) := by
  refine (get_new w ct cs who n src del en start ht hs hn hn0).mono ?_
  rintro e w' ⟨gb, G, he, hg, q, hG⟩
  exact ⟨gb, he, h.make q ⟨G, hg, rfl⟩ hG⟩

theorem getStep_st {W0 w : World} {gb p n : Nat} {g : GetS} {m : MemS} {R : HP} (h : St W0 w (getP gb g * memP p m * R)) (ho : g.Ok n m) (hlog : m.log.length < 1099511627775) :
    Calls Try.prog 21 #[.pointer (some ⟨gb, 0, none⟩), .pointer (some ⟨p, 0, none⟩)] w fun e w' => e = .returned (.int .i64 (g.step n m).1.phase) ∧ St W0 w' (getP gb (g.step n m).1 * memP p (g.step n m).2 * R) := by
  refine (h.call (get_tri w gb p n g m ho hlog)).mono ?_
  rintro e w' ⟨P', ⟨he, rfl⟩, hs⟩
  exact ⟨he, hs⟩

theorem count_st {W0 w : World} {p : Nat} {m : MemS} {R : HP} (h : St W0 w (memP p m * R)) :
    Calls Try.prog 35 #[.pointer (some ⟨p, 0, none⟩)] w fun e w' => e = .returned (.int .i64 m.log.length) ∧ w = w' := by
  obtain ⟨F, hm⟩ := h.mem
  exact mem_count w p F m hm
theorem peek_st {W0 w : World} {p : Nat} {m : MemS} {R : HP} (h : St W0 w (memP p m * R)) (k : Nat) (hk : k < m.cells.length) :
    Calls Try.prog 24 #[.pointer (some ⟨p, 0, none⟩), .int .i64 k] w fun e w' => e = .returned (.int .u64 (m.at k)) ∧ w = w' := by
  obtain ⟨F, hm⟩ := h.mem
  exact mem_peek w p F m k hm hk
theorem phase_st {W0 w : World} {gb : Nat} {g : GetS} {R : HP} (h : St W0 w (getP gb g * R)) :
    Calls Try.prog 22 #[.pointer (some ⟨gb, 0, none⟩)] w fun e w' => e = .returned (.int .i64 g.phase) ∧ w = w' := by
  obtain ⟨G, hg⟩ := h.get
  exact get_phase w gb G g hg
theorem value_st {W0 w : World} {gb : Nat} {g : GetS} {R : HP} (h : St W0 w (getP gb g * R)) :
    Calls Try.prog 23 #[.pointer (some ⟨gb, 0, none⟩)] w fun e w' => e = .returned (.int .u64 g.value) ∧ w = w' := by
  obtain ⟨G, hg⟩ := h.get
  exact get_value w gb G g hg
theorem tries_st {W0 w : World} {gb : Nat} {g : GetS} {R : HP} (h : St W0 w (getP gb g * R)) :
    Calls Try.prog 34 #[.pointer (some ⟨gb, 0, none⟩)] w fun e w' => e = .returned (.int .i64 g.tries) ∧ w = w' := by
  obtain ⟨G, hg⟩ := h.get
  exact get_tries w gb G g hg

theorem own_blk {w : World} {e : TypeId} {size g n cap : Nat} {xs : List Value} (h : w.ownsRow 0 e size (.slice (some ⟨g, 0, none⟩) n cap) n xs) : ∃ cur, Blk w g cur e ∧ n ≤ cap ∧ cap ≤ maxLen ∧ cur.size = cap * size ∧ cur.toList.take (n * size) = xs := by
  rcases h.2 with ⟨he, _⟩ | ⟨g', cap', cur, he, _, hb, h1, h2, h3, h4⟩
  · cases he
  · cases he
    exact ⟨cur, hb, h1, h2, h3, h4⟩
theorem own_free {w : World} {e : TypeId} {size g n cap : Nat} {xs : List Value} (h : w.ownsRow 0 e size (.slice (some ⟨g, 0, none⟩) n cap) n xs) (k : Nat) : w.frozen? ⟨g, k, none⟩ = false := by
  obtain ⟨cur, hb, _⟩ := own_blk h
  exact blk_free hb k
theorem own_set {w : World} {e : TypeId} {size g n cap : Nat} {xs : List Value} (h : w.ownsRow 0 e size (.slice (some ⟨g, 0, none⟩) n cap) n xs) (k : Nat) (v : Value) : (w.setCell ⟨g, k, none⟩ v).ownsRow 0 e size (.slice (some ⟨g, 0, none⟩) n cap) n (xs.set k v) := by
  obtain ⟨cur, hb, h1, h2, h3, h4⟩ := own_blk h
  refine ⟨by rw [List.length_set]; exact h.1, .inr ⟨g, cap, cur.setIfInBounds k v, rfl, Nat.zero_le _, blk_set hb k v, h1, h2, by simpa using h3, ?_⟩⟩
  rw [Array.toList_setIfInBounds, List.take_set, h4]
theorem St.setOwn {W0 w : World} {e : TypeId} {size g n cap : Nat} {xs : List Value} {R : HP} (h : St W0 w (ownP e size (.slice (some ⟨g, 0, none⟩) n cap) n xs * R)) (k : Nat) (v : Value) :
    St W0 (w.setCell ⟨g, k, none⟩ v) (ownP e size (.slice (some ⟨g, 0, none⟩) n cap) n (xs.set k v) * R) := by
  obtain ⟨F, ⟨A, B, ⟨h1, rfl⟩, h2, h3, rfl⟩, h4, h5⟩ := h
  have hf := Frm.setCell (F := [g]) w (a := ⟨g, k, none⟩) v (by simp)
  refine ⟨_, ⟨_, B, ⟨own_set h1 k v, rfl⟩, R.keep w _ B h2 (fun j hj => hf.block j (R.lt w B h2 j hj) (by simp; rintro rfl; exact h3 _ rfl hj)), h3, rfl⟩, h4, ?_⟩
  exact h5.trans hf (fun _ _ h => h) (fun x hx _ hm => by simp at hm; subst hm; have := h4 x (.inl rfl); omega)

theorem St.own_ge {W0 w : World} {e : TypeId} {size g n cap : Nat} {xs : List Value} {R : HP} (h : St W0 w (ownP e size (.slice (some ⟨g, 0, none⟩) n cap) n xs * R)) : W0.heap.size ≤ g := by
  obtain ⟨F, ⟨A, B, ⟨_, rfl⟩, _, _, rfl⟩, h4, _⟩ := h
  exact h4 g (.inl rfl)
theorem wvals_set (l : List Int) (k : Nat) (x : Int) : (wvals l).set k (.int .u64 x) = wvals (l.set k x) := by simp [wvals, List.map_set]
theorem wvals_get (l : List Int) (k : Nat) (h : k < l.length) : (wvals l)[k]'(by simpa [wvals] using h) = .int .u64 (l.getD k 0) := by simp [wvals, List.getD, h]
theorem own_word {w : World} {g n cap : Nat} {l : List Int} (h : w.ownsRow 0 43 1 (.slice (some ⟨g, 0, none⟩) n cap) n (wvals l)) (k : Nat) (hk : k < l.length) : w.cell? ⟨g, k, none⟩ = some (.int .u64 (l.getD k 0)) := by
  rw [own_at h k (by simpa [wvals] using hk), wvals_get l k hk]
theorem own_slot {w : World} {g n cap : Nat} {l : List Nat} (h : w.ownsRow 0 3 1 (.slice (some ⟨g, 0, none⟩) n cap) n (rvals l)) (k : Nat) (hk : k < l.length) : w.cell? ⟨g, k, none⟩ = some (.int .i64 (l.getD k 0)) := by
  rw [own_at h k (by simpa [rvals] using hk)]
  simp [rvals, List.getD, hk]

theorem put_u64 {m : MemS} (hu : ∀ k, U64 (m.at k)) (who op : Int) (k : Nat) (x : Int) (ok : Bool) (hx : U64 x) : ∀ j, U64 ((m.put who op k x ok).at j) := by
  intro j
  unfold MemS.at MemS.put
  simp only [getD_set]
  split
  · exact hx
  · exact hu j
theorem ld_u64 {m : MemS} (hu : ∀ k, U64 (m.at k)) (who k : Nat) : ∀ j, U64 ((m.ld who k).at j) := fun j => by rw [ld_at]; exact hu j
theorem take_u64 (n : Nat) (t : TakeS) (m : MemS) (hs : t.slot < 100000) (hu : ∀ k, U64 (m.at k)) : ∀ j, U64 ((t.step n m).2.at j) := by
  have h0 : U64 0 := ⟨by decide, by decide⟩
  have h1 : U64 ((t.slot : Int) + 1) := ⟨by omega, by omega⟩
  have h2 : U64 ((unpk t.word).taken.pack) := pack_u64 _ (unpk_taken_ok _)
  unfold TakeS.step
  repeat' split
  · exact hu
  · exact put_u64 hu _ _ _ _ _ h0
  · exact put_u64 hu _ _ _ _ _ h1
  · exact ld_u64 hu _ _
  · exact ld_u64 hu _ _
  · exact put_u64 hu _ _ _ _ _ h2
  · exact put_u64 hu _ _ _ _ _ (hu _)
  · exact put_u64 hu _ _ _ _ _ h0
theorem step_u64 (n : Nat) (g : GetS) (m : MemS) (ho : g.Ok n m) (hu : ∀ k, U64 (m.at k)) : ∀ j, U64 ((g.step n m).2.at j) := by
  have hle := ho.fits.le
  unfold GetS.step
  split
  · exact hu
  · cases ht : g.take with
    | none =>
      simp only
      unfold SnapS.step
      split
      · exact hu
      · exact ld_u64 hu _ _
    | some t =>
      simp only
      exact take_u64 n t m (by have := (ho.tk t ht).2.2.1; omega) hu

theorem runG_ok {n : Nat} {g : GetS} {m : MemS} (ho : g.Ok n m) (hu : ∀ k, U64 (m.at k)) (k : Nat) : (runG n g m k).1.Ok n (runG n g m k).2 ∧ ∀ j, U64 ((runG n g m k).2.at j) := by
  induction k with
  | zero => exact ⟨ho, hu⟩
  | succ k ih =>
    refine ⟨get_step_ok n _ _ ih.1 ih.2, ?_⟩
    exact step_u64 n _ _ ih.1 ih.2

theorem words_u64 {m : MemS} (hu : ∀ k, U64 (m.at k)) (n : Nat) (hn : n ≤ m.cells.length) : ∀ x ∈ m.words n, U64 x := by
  intro x hx
  obtain ⟨k, hk, rfl⟩ := List.getElem_of_mem hx
  have := words_at m n k (by rw [words_len m n hn] at hk; exact hk)
  rw [List.getD_eq_getElem?_getD, List.getElem?_eq_getElem hk] at this
  simp only [Option.getD_some] at this
  rw [this]; exact hu k

end Go.Proofs.Ytkcimjcmlibgpaa
