/-
  stackyardlaw08.Row: the places in their order, put in one by one. Conditions: the words lie in a row.
-/
import Derived.Test.YtkcimjcmlibgpaaLawC
namespace Go.Proofs.Ytkcimjcmlibgpaa
open Go.RowKit

/-- How many stand ahead of x, from the front on. -/
def aheadN (x : Th) : List Th → Nat
  | [] => 0
  | y :: l => if aheadT y x = true then aheadN x l + 1 else 0

theorem aheadN_le (x : Th) (l : List Th) : aheadN x l ≤ l.length := by
  induction l with
  | nil => exact Nat.le_refl _
  | cons y l ih => unfold aheadN; split <;> simp <;> omega
theorem insT_eq (x : Th) (l : List Th) : insT x l = l.take (aheadN x l) ++ x :: l.drop (aheadN x l) := by
  induction l with
  | nil => rfl
  | cons y l ih =>
    unfold insT aheadN
    split
    · rw [ih]; simp
    · simp
theorem aheadN_lt (x : Th) : ∀ (l : List Th) (k : Nat), k < aheadN x l → ∃ y, l[k]? = some y ∧ aheadT y x = true
  | [], k, h => by simp [aheadN] at h
  | y :: l, k, h => by
    unfold aheadN at h
    split at h
    · cases k with
      | zero => exact ⟨y, rfl, by assumption⟩
      | succ k => exact aheadN_lt x l k (by omega)
    · omega
theorem aheadN_at (x : Th) : ∀ (l : List Th), aheadN x l < l.length → ∃ y, l[aheadN x l]? = some y ∧ aheadT y x = false
  | [], h => by simp at h
  | y :: l, h => by
    unfold aheadN at h ⊢
    split
    · rename_i hy
      rw [if_pos hy] at h
      simp only [List.length_cons] at h
      simpa using aheadN_at x l (by omega)
    · rename_i hy
      exact ⟨y, rfl, by simpa using hy⟩

def svals (l : List Th) : List Value := l.map fun t => Value.int .i64 (t.slot : Int)

theorem sortT_snoc (l : List Th) (x : Th) : sortT (l ++ [x]) = insT x (sortT l) := by simp [sortT]

/-- Behind the first i words. -/
structure RowInv (w wr : World) (words : List Int) (i : Nat) (o : Value) : Prop where
  oo : ∃ g cap, o = .slice (some ⟨g, 0, none⟩) (sortT (things words i)).length cap ∧ (sortT (things words i)).length ≤ cap ∧ cap ≤ maxLen ∧ w.heap.size ≤ g ∧ wr.ownsRow 0 3 1 o (sortT (things words i)).length (svals (sortT (things words i)))
  frm : Frm [] w wr

theorem own_cap {w : World} {e : TypeId} {size g n cap : Nat} {xs : List Value} (h : w.ownsRow 0 e size (.slice (some ⟨g, 0, none⟩) n cap) n xs) : n ≤ cap ∧ cap ≤ maxLen := by
  rcases h.2 with ⟨h', _⟩ | ⟨g', cap', cur, h', _, _, h1, h2, _⟩
  · simp at h'
  · simp only [Value.slice.injEq, true_and] at h'
    rw [h'.2]; exact ⟨h1, h2⟩

theorem sortT_le (words : List Int) (i : Nat) : (sortT (things words i)).length ≤ i := by rw [(sortT_perm _).length_eq]; exact things_le words i

theorem RowInv.skip {w wr w1 : World} {words : List Int} {i : Nat} {o : Value} (h : RowInv w wr words i o) (q : Frm [] wr w1) (hs : ¬ (unpk (words.getD i 0)).st = 1) : RowInv w w1 words (i + 1) o := by
  have e : things words (i + 1) = things words i := by rw [things_succ, if_neg hs, List.append_nil]
  obtain ⟨⟨g, cap, h1, h2, h3, h4, h5⟩, h6⟩ := h
  refine ⟨⟨g, cap, ?_⟩, h6.tr q⟩
  rw [e]
  exact ⟨h1, h2, h3, h4, own_frm h5 q (by simp)⟩

theorem RowInv.put {w w3 : World} {words : List Int} {k N : Nat} {S : List Th} {v : Value} {xs : List Value} (hq : Frm [] w w3) (ht : things words (k + 1) = things words k ++ [thAt words k]) (hS : sortT (things words k) = S)
    (own : w3.ownsRow 0 3 1 v N xs) (hx : xs = svals (insT (thAt words k) S)) (hno : ∀ b, v.ownBlock = some b → w.heap.size ≤ b) : RowInv w w3 words (k + 1) v := by
  have e : sortT (things words (k + 1)) = insT (thAt words k) S := by rw [ht, sortT_snoc, hS]
  have hN : N = (sortT (things words (k + 1))).length := by
    have := own.1
    rw [hx] at this
    rw [e]
    simpa [svals] using this.symm
  subst hN hx
  obtain ⟨g, cap, rfl⟩ := Go.Joins.ownsRow_form own (by rw [e, (insT_perm _ _).length_eq]; simp)
  have hc := own_cap own
  exact ⟨⟨g, cap, rfl, hc.1, hc.2, hno g rfl, by rw [e]; rw [e] at own; exact own⟩, hq⟩

set_option maxRecDepth 100000 in
set_option maxHeartbeats 2000000 in
theorem law08_row (w : World) (wb n cap0 : Nat) (words : List Int) (hw : RdW w wb words) (hl : words.length = n) (hn : n ≤ 4096) (hu : ∀ x ∈ words, U64 x) :
    Calls Try.prog 16 #[.slice (some ⟨wb, 0, none⟩) n cap0] w fun e w' => ∃ g cap, e = .returned (.slice (some ⟨g, 0, none⟩) (rowW words).length cap) ∧ w.heap.size ≤ g ∧
      w'.ownsRow 0 3 1 (.slice (some ⟨g, 0, none⟩) (rowW words).length cap) (rowW words).length ((rowW words).map fun s : Nat => Value.int .i64 (s : Int)) ∧ Frm [] w w' := by
  obtain ⟨i1, hi1, hy0, hy1, hy2⟩ := info_parts Try.infoInt
  have HW := Lib.hid hw
  have HL := Lib.hid hl
  have HU := Lib.hid hu
  have hwt := hw.lt
  clear hw hl hu
  have hfd := Try.fld_st
  go_enter Try.func16, Try.ntmps16
  go_wp2
  go_loopw [3, 11] (fun o i wr => ∃ k : Nat, k ≤ n ∧ i = .int .i64 k ∧ RowInv w wr words k o) (fun _ i _ => n - (intOf i).toNat)
  case atStart =>
    refine ⟨0, Nat.zero_le _, rfl, ⟨⟨w.heap.size, 0, rfl, Nat.le_refl _, Nat.zero_le _, Nat.le_refl _, ?_⟩, Frm.alloc _ _ _⟩⟩
    have := World.ownsRow_made (e := 3) (size := 1) (base := 0) w #[] 0 (Nat.zero_le _) (Nat.zero_le _) (by decide)
    simpa [svals, things, sortT] using this
  case round =>
    obtain ⟨k, hk, rfl, hI⟩ := hrel
    have HI := Lib.hid hI
    obtain ⟨⟨g, cap, rfl, hc1, hc2, hg, ho⟩, hq⟩ := hI
    have HO := Lib.hid ho
    have HQ := Lib.hid hq
    have hgl := (ho.lt g rfl).2
    have hwr := (HW.out.ext hq).lt
    have hsl := sortT_le words k
    clear ho hq
    generalize wr = W1 at *
    by_cases hlt : k < n
    · have hX := Lib.hid (HU.out (words.getD k 0) (by rw [List.getD_eq_getElem?_getD, List.getElem?_eq_getElem (by rw [HL.out]; exact hlt)]; exact List.getElem_mem _))
      have cw := (HW.out.ext HQ.out).at_ k (by rw [HL.out]; exact hlt)
      have HXX := Lib.hid (fun w' => word_unpack w' (words.getD k 0) hX.out.1 hX.out.2)
      clear hX
      have HSk := Lib.hid (fun (w1 : World) q hst => RowInv.skip (w1 := w1) HI.out q hst)
      have HTh := Lib.hid (show (unpk (words.getD k 0)).st = 1 → things words (k + 1) = things words k ++ [thAt words k] from fun h => by rw [things_succ, if_pos h])
      have HAh := Lib.hid (fun (w' : World) (q : Frm [] w w') (a : Nat) (ha : a < n) => law08_ahead w' wb n cap0 a k words (HW.out.ext q) HL.out HU.out ha hlt)
      have HSn := Lib.hid (fun y (hy : y ∈ sortT (things words k)) => show y = thAt words y.slot ∧ y.slot < n from by
        have := (sortT_perm _).mem_iff.1 hy
        unfold things at this
        obtain ⟨i, hi, rfl⟩ := List.mem_map.1 (List.mem_filter.1 this).1
        exact ⟨rfl, Nat.lt_trans (List.mem_range.1 hi) hlt⟩)
      generalize words.getD k 0 = x at *
      by_cases hst : (unpk x).st = 1
      · have hs1 : ((unpk x).st != 1) = false := by simp [hst]
        have HTH := Lib.hid (HTh.out hst)
        clear HSk HTh HI hst
        obtain ⟨S, hS⟩ : ∃ S, sortT (things words k) = S := ⟨_, rfl⟩
        rw [hS] at HO hc1 hsl HSn ⊢
        have HS := Lib.hid hS
        clear hS
        have HAL := Lib.hid (fun j => aheadN_lt (thAt words k) S j)
        have HAA := Lib.hid (aheadN_at (thAt words k) S)
        have hA := aheadN_le (thAt words k) S
        have HIE := Lib.hid (insT_eq (thAt words k) S)
        generalize aheadN (thAt words k) S = A at *
        have hrd : ∀ j y, S[j]? = some y → ∀ wq, Frm [] W1 wq → wq.cell? ⟨g, j, none⟩ = some (.int .i64 (y.slot : Int)) := by
          intro j y hj wq q
          have hjl : j < S.length := (List.getElem?_eq_some_iff.1 hj).1
          rw [(own_frm HO.out q (by simp)).cellAt j (by omega)]
          simp [svals, hj]
        have HRD := Lib.hid hrd
        clear hrd
        go_wp2_with (go_at_call 29; refine (HXX.out _).mono ?_; rintro e w1 ⟨rfl, q1⟩; have HQ1 := Lib.hid q1; clear q1)
        go_loopw [6] (fun j wq => ∃ t : Nat, t ≤ A ∧ j = .int .i64 t ∧ Frm [] W1 wq) (fun j _ => A - (intOf j).toNat)
        case atStart => exact ⟨0, Nat.zero_le _, rfl, HQ1.out⟩
        case round =>
          obtain ⟨t, ht, rfl, hq2⟩ := hrel
          have HQ2 := Lib.hid hq2
          have hg2 : g < wr.heap.size := Nat.lt_of_lt_of_le hgl hq2.size
          have hw2 : wb < wr.heap.size := Nat.lt_of_lt_of_le hwr hq2.size
          clear hq2
          by_cases hta : t < A
          · obtain ⟨y, hy, hya⟩ := HAL.out t hta
            have c1 := HRD.out t y hy _ HQ2.out
            obtain ⟨e1, e2⟩ := HSn.out y (List.mem_of_getElem? hy)
            have HC := Lib.hid (HAh.out _ (HQ.out.tr HQ2.out) y.slot e2)
            rw [← e1, hya] at HC
            have htl : (t : Int) < (S.length : Int) := by omega
            clear hy hya e1
            generalize y.slot = ys at *
            go_wp2_with (go_at_call 58; refine HC.out.mono ?_; rintro e w2 ⟨rfl, q2⟩; have HQ3 := Lib.hid (HQ2.out.tr q2); clear q2)
            go_roundw
            case rel => exact ⟨t + 1, by omega, by go_num, HQ3.out⟩
            case measure => simp [intOf]; omega
          · obtain rfl : t = A := by omega
            by_cases hAl : t < S.length
            · obtain ⟨y, hy, hya⟩ := HAA.out hAl
              have c1 := HRD.out t y hy _ HQ2.out
              obtain ⟨e1, e2⟩ := HSn.out y (List.mem_of_getElem? hy)
              have HC := Lib.hid (HAh.out _ (HQ.out.tr HQ2.out) y.slot e2)
              rw [← e1, hya] at HC
              have htl : (t : Int) < (S.length : Int) := by omega
              clear hy hya e1
              generalize y.slot = ys at *
              go_wp2_with (first | (go_at_call 58; refine HC.out.mono ?_; rintro e w2 ⟨rfl, q2⟩; have HQ3 := Lib.hid (HQ2.out.tr q2); clear q2) | (at_builtin; have HOa := Lib.hid (own_frm HO.out HQ3.out (by simp)); have hmade := Lib.hid (World.ownsRow_made (e := 3) (size := 1) (base := 0) w2 #[] 0 (Nat.zero_le _) (Nat.zero_le _) (by decide)); refine wpList_append_fp rfl (.tmp 35) (.tmp 38) 31 rfl 3 i1 _ 1 8 Try.underlying31 hi1 hy0 hy1 hy2 rfl (by decide) _ _ _ rfl hmade.out ⟨g, 0, none⟩ t cap (svals (S.take t)) rfl ?a1 ?b1 ?c1 ?d1 ?e1 ?_))
              case a1 => simp [svals]; omega
              case b1 =>
                intro j u hu
                have hj : j < t := by
                  have := (List.getElem?_eq_some_iff.1 hu).1
                  simp [svals] at this; omega
                first | rw [Addr.add_lit, Nat.zero_add, (HOa.out.alloc _).cellAt j (by omega)] | rw [HOa.out.cellAt j (by omega)]
                simpa [svals, List.getElem?_take, hj] using hu
              case c1 => intro u hu; obtain ⟨x, _, rfl⟩ := List.mem_map.1 hu; rfl
              case d1 => unfold maxLen; omega
              case e1 => omega
              intro v1 wx1 own1 gr1 fp1
              have hgw : g < w2.heap.size := (HOa.out.lt g rfl).2
              have HOb := Lib.hid ((HOa.out.alloc (.cells #[] 3)).kept gr1 (.inr (by simp [Value.ownBlock]; omega)))
              have HQb := Lib.hid (grown_frm (HQ.out.tr HQ3.out) (Frm.alloc _ _ _) gr1 (by intro b hb; simp only [Value.ownBlock, Option.some.injEq] at hb; have := (HQ.out.tr HQ3.out).size; omega))
              have hn1 : ∀ b, v1.ownBlock = some b → w2.heap.size ≤ b := by
                intro b hb
                rcases fp1 b hb with h | h
                · simp only [Value.ownBlock, Option.some.injEq] at h; omega
                · (try simp at h); omega
              have HN1 := Lib.hid hn1
              have HR1 := Lib.hid own1
              have hZ1 : w2.heap.size + 1 ≤ wx1.heap.size := by have := gr1.size; simpa using this
              have hz0 : w.heap.size ≤ w2.heap.size := (HQ.out.tr HQ3.out).size
              clear own1 gr1 fp1 hn1 hmade
              go_wp2_with (at_builtin; refine wpList_append_fp rfl (.tmp 39) (.tmp 41) 31 rfl 3 i1 _ 1 8 Try.underlying31 hi1 hy0 hy1 hy2 rfl (by decide) _ _ _ rfl (HR1.out.alloc _) ⟨wx1.heap.size, 0, none⟩ 1 1 [.int .i64 k] rfl rfl ?f1 ?g1 ?h1 ?i1 ?_)
              case f1 => exact new_cells rfl
              case g1 => intro u hu; simp at hu; subst hu; rfl
              case h1 => unfold maxLen; omega
              case i1 => omega
              intro v2 wx2 own2 gr2 fp2
              have HOc := Lib.hid ((HOb.out.alloc (.cells #[.int .i64 (k : Int)] 3)).kept gr2 (.inr (by intro h; simp only [Value.ownBlock] at h; have := HN1.out g h.symm; omega)))
              have HQc := Lib.hid (grown_frm HQb.out (Frm.alloc _ _ _) gr2 (by intro b hb; have := HN1.out b hb; omega))
              have hn2 : ∀ b, v2.ownBlock = some b → w2.heap.size ≤ b := by
                intro b hb
                rcases fp2 b hb with h | h
                · exact HN1.out b h
                · (try simp at h); omega
              have HN2 := Lib.hid hn2
              have HR2 := Lib.hid own2
              have hZ2 : wx1.heap.size + 1 ≤ wx2.heap.size := by have := gr2.size; simpa using this
              have hcn : (t : Int) ≤ (S.length : Int) := by omega
              have hsub : IntKind.i64.wrap ((S.length : Int) - (t : Int)) = ((S.length - t : Nat) : Int) := by rw [w64 (by omega) (by omega)]; omega
              clear own2 gr2 fp2 hn2
              go_wp2_with (at_builtin; refine wpList_append_fp rfl (.tmp 43) (.tmp 46) 31 rfl 3 i1 _ 1 8 Try.underlying31 hi1 hy0 hy1 hy2 rfl (by decide) _ _ _ rfl HR2.out ⟨g, t, none⟩ (S.length - t) (cap - t) (svals (S.drop t)) rfl ?j1 ?k1 ?l1 ?m1 ?n1 ?_)
              case j1 => simp [svals]
              case k1 =>
                intro j u hu
                have hj : j < S.length - t := by
                  have := (List.getElem?_eq_some_iff.1 hu).1
                  simpa [svals] using this
                first | rw [Addr.add_lit, HOc.out.cellAt (t + j) (by omega)] | rw [HOc.out.cellAt (t + j) (by omega)]
                simpa [svals] using hu
              case l1 => intro u hu; obtain ⟨x, _, rfl⟩ := List.mem_map.1 hu; rfl
              case m1 => unfold maxLen; omega
              case n1 => omega
              intro v3 wx3 own3 gr3 fp3
              have HR3 := Lib.hid (RowInv.put (grown_frm HQc.out (Frm.refl _ _) gr3 (by intro b hb; have := HN2.out b hb; omega)) HTH.out HS.out own3 (by rw [HIE.out]; simp [svals, thAt]) (by
                intro b hb
                rcases fp3 b hb with h | h
                · have := HN2.out b h; omega
                · omega))
              clear own3 gr3 fp3
              go_wp2
              go_roundw
              case rel => exact ⟨k + 1, by omega, by go_num, HR3.out⟩
              case measure => simp [intOf]; omega

            · have htl : ¬ (t : Int) < (S.length : Int) := by omega
              go_wp2_with (at_builtin; have HOa := Lib.hid (own_frm HO.out HQ2.out (by simp)); have hmade := Lib.hid (World.ownsRow_made (e := 3) (size := 1) (base := 0) wr #[] 0 (Nat.zero_le _) (Nat.zero_le _) (by decide)); refine wpList_append_fp rfl (.tmp 35) (.tmp 38) 31 rfl 3 i1 _ 1 8 Try.underlying31 hi1 hy0 hy1 hy2 rfl (by decide) _ _ _ rfl hmade.out ⟨g, 0, none⟩ t cap (svals (S.take t)) rfl ?a2 ?b2 ?c2 ?d2 ?e2 ?_)
              case a2 => simp [svals]; omega
              case b2 =>
                intro j u hu
                have hj : j < t := by
                  have := (List.getElem?_eq_some_iff.1 hu).1
                  simp [svals] at this; omega
                first | rw [Addr.add_lit, Nat.zero_add, (HOa.out.alloc _).cellAt j (by omega)] | rw [HOa.out.cellAt j (by omega)]
                simpa [svals, List.getElem?_take, hj] using hu
              case c2 => intro u hu; obtain ⟨x, _, rfl⟩ := List.mem_map.1 hu; rfl
              case d2 => unfold maxLen; omega
              case e2 => omega
              intro v1 wx1 own1 gr1 fp1
              have hgw : g < wr.heap.size := (HOa.out.lt g rfl).2
              have HOb := Lib.hid ((HOa.out.alloc (.cells #[] 3)).kept gr1 (.inr (by simp [Value.ownBlock]; omega)))
              have HQb := Lib.hid (grown_frm (HQ.out.tr HQ2.out) (Frm.alloc _ _ _) gr1 (by intro b hb; simp only [Value.ownBlock, Option.some.injEq] at hb; have := (HQ.out.tr HQ2.out).size; omega))
              have hn1 : ∀ b, v1.ownBlock = some b → wr.heap.size ≤ b := by
                intro b hb
                rcases fp1 b hb with h | h
                · simp only [Value.ownBlock, Option.some.injEq] at h; omega
                · (try simp at h); omega
              have HN1 := Lib.hid hn1
              have HR1 := Lib.hid own1
              have hZ1 : wr.heap.size + 1 ≤ wx1.heap.size := by have := gr1.size; simpa using this
              have hz0 : w.heap.size ≤ wr.heap.size := (HQ.out.tr HQ2.out).size
              clear own1 gr1 fp1 hn1 hmade
              go_wp2_with (at_builtin; refine wpList_append_fp rfl (.tmp 39) (.tmp 41) 31 rfl 3 i1 _ 1 8 Try.underlying31 hi1 hy0 hy1 hy2 rfl (by decide) _ _ _ rfl (HR1.out.alloc _) ⟨wx1.heap.size, 0, none⟩ 1 1 [.int .i64 k] rfl rfl ?f2 ?g2 ?h2 ?i2 ?_)
              case f2 => exact new_cells rfl
              case g2 => intro u hu; simp at hu; subst hu; rfl
              case h2 => unfold maxLen; omega
              case i2 => omega
              intro v2 wx2 own2 gr2 fp2
              have HOc := Lib.hid ((HOb.out.alloc (.cells #[.int .i64 (k : Int)] 3)).kept gr2 (.inr (by intro h; simp only [Value.ownBlock] at h; have := HN1.out g h.symm; omega)))
              have HQc := Lib.hid (grown_frm HQb.out (Frm.alloc _ _ _) gr2 (by intro b hb; have := HN1.out b hb; omega))
              have hn2 : ∀ b, v2.ownBlock = some b → wr.heap.size ≤ b := by
                intro b hb
                rcases fp2 b hb with h | h
                · exact HN1.out b h
                · (try simp at h); omega
              have HN2 := Lib.hid hn2
              have HR2 := Lib.hid own2
              have hZ2 : wx1.heap.size + 1 ≤ wx2.heap.size := by have := gr2.size; simpa using this
              have hcn : (t : Int) ≤ (S.length : Int) := by omega
              have hsub : IntKind.i64.wrap ((S.length : Int) - (t : Int)) = ((S.length - t : Nat) : Int) := by rw [w64 (by omega) (by omega)]; omega
              clear own2 gr2 fp2 hn2
              obtain ⟨ad, had⟩ : ∃ ad, (if cap = t then some (⟨g, 0, none⟩ : Addr) else some ⟨g, t, none⟩) = some ad := by split <;> exact ⟨_, rfl⟩
              go_wp2_with (at_builtin; refine wpList_append_fp rfl (.tmp 43) (.tmp 46) 31 rfl 3 i1 _ 1 8 Try.underlying31 hi1 hy0 hy1 hy2 rfl (by decide) _ _ _ rfl HR2.out ad (S.length - t) (cap - t) (svals (S.drop t)) rfl ?j2 ?k2 ?l2 ?m2 ?n2 ?_)
              case j2 => simp [svals]
              case k2 =>
                intro j u hu
                have hj : j < S.length - t := by
                  have := (List.getElem?_eq_some_iff.1 hu).1
                  simpa [svals] using this
                omega
              case l2 => intro u hu; obtain ⟨x, _, rfl⟩ := List.mem_map.1 hu; rfl
              case m2 => unfold maxLen; omega
              case n2 => omega
              intro v3 wx3 own3 gr3 fp3
              have HR3 := Lib.hid (RowInv.put (grown_frm HQc.out (Frm.refl _ _) gr3 (by intro b hb; have := HN2.out b hb; omega)) HTH.out HS.out own3 (by rw [HIE.out]; simp [svals, thAt]) (by
                intro b hb
                rcases fp3 b hb with h | h
                · have := HN2.out b h; omega
                · omega))
              clear own3 gr3 fp3
              go_wp2
              go_roundw
              case rel => exact ⟨k + 1, by omega, by go_num, HR3.out⟩
              case measure => simp [intOf]; omega

      · have hs1 : ((unpk x).st != 1) = true := by simpa using hst
        have HSk2 := Lib.hid (fun w1 q => HSk.out w1 q hst)
        clear HI hst HSk HTh HAh HSn
        go_wp2_with (go_at_call 29; refine (HXX.out _).mono ?_; rintro e w1 ⟨rfl, q1⟩)
        go_roundw
        case rel => exact ⟨k + 1, by omega, by go_num, HSk2.out _ q1⟩
        case measure => simp [intOf]; omega
    · obtain rfl : k = n := by omega
      go_wp2
      go_ret
      have e : rowW words = (sortT (things words k)).map Th.slot := by unfold rowW; rw [HL.out]
      rw [e, List.length_map, List.map_map]
      exact ⟨g, cap, rfl, hg, HO.out, HQ.out⟩

end Go.Proofs.Ytkcimjcmlibgpaa
