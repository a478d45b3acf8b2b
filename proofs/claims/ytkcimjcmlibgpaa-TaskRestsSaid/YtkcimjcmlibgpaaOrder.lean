/-
  pick.Order, pick.At: what stands where. Conditions: the words lie in a slice; fewer than 2^40.
-/
import Derived.Test.YtkcimjcmlibgpaaSort
import Derived.Test.YtkcimjcmlibgpaaMemNew
import Derived.Laws.AppendOwnNone
namespace Go.Proofs.Ytkcimjcmlibgpaa
open Go.RowKit

theorem own_frm {w w' : World} {e : TypeId} {size : Nat} {v : Value} {n : Nat} {xs : List Value} {F : List Nat} (h : w.ownsRow 0 e size v n xs) (k : Frm F w w') (hd : ∀ g, v.ownBlock = some g → g ∉ F) : w'.ownsRow 0 e size v n xs := by
  refine ⟨h.1, ?_⟩
  rcases h.2 with hn | ⟨g, cap, cur, rfl, hb, hgg, rest⟩
  · exact .inl hn
  · refine .inr ⟨g, cap, cur, rfl, hb, ?_, rest⟩
    rw [k.block g (Array.getElem?_eq_some_iff.1 hgg).1 (hd g rfl)]
    exact hgg

def leftT (words : List Int) (k : Nat) : List Th := (things words k).filter fun x => x.w.en = 0
def rightT (words : List Int) (k : Nat) : List Th := (things words k).filter fun x => ¬ x.w.en = 0
theorem things_le (words : List Int) (k : Nat) : (things words k).length ≤ k := by
  unfold things
  refine Nat.le_trans (List.length_filter_le _ _) (by simp)
theorem leftT_le (words : List Int) (k : Nat) : (leftT words k).length ≤ k := Nat.le_trans (List.length_filter_le _ _) (things_le words k)
theorem rightT_le (words : List Int) (k : Nat) : (rightT words k).length ≤ k := Nat.le_trans (List.length_filter_le _ _) (things_le words k)

/-- Behind the first k words. -/
structure OrdInv (w wr : World) (words : List Int) (k : Nat) (l r : Value) : Prop where
  ol : wr.ownsRow 0 142 6 l (leftT words k).length (rowT (leftT words k))
  or : wr.ownsRow 0 142 6 r (rightT words k).length (rowT (rightT words k))
  frm : Frm [] w wr
  nl : ∀ g, l.ownBlock = some g → w.heap.size ≤ g
  nr : ∀ g, r.ownBlock = some g → w.heap.size ≤ g
  ne : ∀ g, l.ownBlock = some g → r.ownBlock ≠ some g
  nil : rightT words k = [] → r = .slice none 0 0
  nill : leftT words k = [] → l = .slice none 0 0

theorem split_skip (words : List Int) (k : Nat) (h : ¬ (unpk (words.getD k 0)).st = 1) : leftT words (k + 1) = leftT words k ∧ rightT words (k + 1) = rightT words k := by
  unfold leftT rightT
  rw [things_succ, if_neg h]; simp
theorem split_left (words : List Int) (k : Nat) (h : (unpk (words.getD k 0)).st = 1) (he : (unpk (words.getD k 0)).en = 0) : leftT words (k + 1) = leftT words k ++ [thAt words k] ∧ rightT words (k + 1) = rightT words k := by
  have e : (thAt words k).w.en = 0 := he
  unfold leftT rightT
  rw [things_succ, if_pos h, List.filter_append, List.filter_append]
  simp [e]
theorem split_right (words : List Int) (k : Nat) (h : (unpk (words.getD k 0)).st = 1) (he : ¬ (unpk (words.getD k 0)).en = 0) : leftT words (k + 1) = leftT words k ∧ rightT words (k + 1) = rightT words k ++ [thAt words k] := by
  have e : ¬ (thAt words k).w.en = 0 := he
  unfold leftT rightT
  rw [things_succ, if_pos h, List.filter_append, List.filter_append]
  simp [e]

theorem OrdInv.skip {w wr w1 : World} {words : List Int} {k : Nat} {l r : Value} (h : OrdInv w wr words k l r) (q : Frm [] wr w1) (hs : ¬ (unpk (words.getD k 0)).st = 1) : OrdInv w w1 words (k + 1) l r := by
  obtain ⟨e1, e2⟩ := split_skip words k hs
  obtain ⟨h1, h2, h3, h4, h5, h6, h7, h8⟩ := h
  refine ⟨?_, ?_, h3.tr q, h4, h5, h6, ?_, ?_⟩
  · rw [e1]; exact own_frm h1 q (by simp)
  · rw [e2]; exact own_frm h2 q (by simp)
  · rw [e2]; exact h7
  · rw [e1]; exact h8

/-- A row that is appended to, while another one lies still. -/
theorem grown_frm {w wr W w' : World} {v : Value} (h : Frm [] w wr) (q : Frm [] wr W) (g : W.grownBy w' v.ownBlock) (hn : ∀ b, v.ownBlock = some b → w.heap.size ≤ b) : Frm [] w w' := by
  have h2 := h.tr q
  refine ⟨g.os.trans h2.os, g.tape.trans h2.tape, g.output.trans h2.output, Nat.le_trans h2.size g.size, fun k hk _ => ?_⟩
  rw [g.block k (Nat.lt_of_lt_of_le hk h2.size) (fun e => by have := hn k e.symm; omega)]
  exact h2.block k hk (by simp)
theorem own_grown {W w' : World} {e : TypeId} {size : Nat} {u v : Value} {n : Nat} {xs : List Value} (h : W.ownsRow 0 e size u n xs) (g : W.grownBy w' v.ownBlock) (hd : ∀ b, u.ownBlock = some b → v.ownBlock ≠ some b) : w'.ownsRow 0 e size u n xs :=
  h.kept g (by
    cases hu : u.ownBlock with
    | none => exact .inl rfl
    | some b => exact .inr (fun e => hd b hu e.symm))

theorem OrdInv.left {w wr W w' : World} {words : List Int} {k : Nat} {l r v' : Value} (h : OrdInv w wr words k l r) (q : Frm [] wr W) (hs : (unpk (words.getD k 0)).st = 1) (he : (unpk (words.getD k 0)).en = 0)
    (own : w'.ownsRow 0 142 6 v' ((leftT words k).length + 1) (rowT (leftT words k) ++ (thAt words k).enc)) (g : W.grownBy w' l.ownBlock) (fp : ∀ b, v'.ownBlock = some b → l.ownBlock = some b ∨ W.heap.size ≤ b) : OrdInv w w' words (k + 1) v' r := by
  obtain ⟨e1, e2⟩ := split_left words k hs he
  obtain ⟨h1, h2, h3, h4, h5, h6, h7, h8⟩ := h
  have hz : w.heap.size ≤ W.heap.size := Nat.le_trans h3.size q.size
  refine ⟨?_, ?_, grown_frm h3 q g h4, ?_, h5, ?_, ?_, ?_⟩
  · rw [e1]; simpa [rowT] using own
  · rw [e2]
    exact own_grown (own_frm h2 q (by simp)) g (fun b hb hl => h6 b hl hb)
  · intro b hb
    rcases fp b hb with h | h
    · exact h4 b h
    · omega
  · intro b hb hr
    rcases fp b hb with h | h
    · exact h6 b h hr
    · have := (h2.lt b hr).2
      have := q.size
      omega
  · rw [e2]; exact h7
  · rw [e1]; intro h; simp at h
theorem OrdInv.right {w wr W w' : World} {words : List Int} {k : Nat} {l r v' : Value} (h : OrdInv w wr words k l r) (q : Frm [] wr W) (hs : (unpk (words.getD k 0)).st = 1) (he : ¬ (unpk (words.getD k 0)).en = 0)
    (own : w'.ownsRow 0 142 6 v' ((rightT words k).length + 1) (rowT (rightT words k) ++ (thAt words k).enc)) (g : W.grownBy w' r.ownBlock) (fp : ∀ b, v'.ownBlock = some b → r.ownBlock = some b ∨ W.heap.size ≤ b) : OrdInv w w' words (k + 1) l v' := by
  obtain ⟨e1, e2⟩ := split_right words k hs he
  obtain ⟨h1, h2, h3, h4, h5, h6, h7, h8⟩ := h
  have hz : w.heap.size ≤ W.heap.size := Nat.le_trans h3.size q.size
  refine ⟨?_, ?_, grown_frm h3 q g h5, h4, ?_, ?_, ?_, ?_⟩
  · rw [e1]
    exact own_grown (own_frm h1 q (by simp)) g (fun b hb hr => h6 b hb hr)
  · rw [e2]; simpa [rowT] using own
  · intro b hb
    rcases fp b hb with h | h
    · exact h5 b h
    · omega
  · intro b hb hr
    rcases fp b hr with h | h
    · exact h6 b hb h
    · have := (h1.lt b hb).2
      have := q.size
      omega
  · rw [e2]; intro h; simp at h
  · rw [e1]; exact h8

/-- Behind the first j things of the order. -/
structure OutInv (w wr : World) (S : List Th) (g cap N j : Nat) (o : Value) : Prop where
  oo : wr.ownsRow 0 3 1 o j ((S.map fun t => Value.int .i64 (t.slot : Int)).take j)
  os : wr.ownsRow 0 142 6 (.slice (some ⟨g, 0, none⟩) N cap) N (rowT S)
  frm : Frm [] w wr
  no : ∀ b, o.ownBlock = some b → w.heap.size ≤ b
  ne : o.ownBlock ≠ some g

theorem OutInv.next {w wr W w' : World} {S : List Th} {g cap N j : Nat} {o o' : Value} (h : OutInv w wr S g cap N j o) (q : Frm [] wr W) (hj : j < S.length)
    (own : w'.ownsRow 0 3 1 o' (j + 1) (((S.map fun t => Value.int .i64 (t.slot : Int)).take j) ++ [.int .i64 ((S[j]!).slot : Int)])) (gr : W.grownBy w' o.ownBlock) (fp : ∀ b, o'.ownBlock = some b → o.ownBlock = some b ∨ W.heap.size ≤ b) : OutInv w w' S g cap N (j + 1) o' := by
  obtain ⟨h1, h2, h3, h4, h5⟩ := h
  have hz : w.heap.size ≤ W.heap.size := Nat.le_trans h3.size q.size
  refine ⟨?_, ?_, grown_frm h3 q gr h4, ?_, ?_⟩
  · rw [List.take_succ_eq_append_getElem (by simpa using hj), List.getElem_map]
    rw [getElem!_pos S j hj] at own
    exact own
  · exact own_grown (own_frm h2 q (by simp)) gr (fun b hb ho => by simp only [Value.ownBlock, Option.some.injEq] at hb; subst hb; exact h5 ho)
  · intro b hb
    rcases fp b hb with h | h
    · exact h4 b h
    · omega
  · intro hb
    rcases fp g hb with h | h
    · exact h5 h
    · have := (h2.lt g rfl).2
      have := q.size
      omega

theorem Try.infoInt : (Try.prog.info? 3).map (fun i => (i.zero, i.size, i.bytes)) = some (some (.int .i64 0), 1, 8) := by kernel_rfl

theorem Try.infoTh : (Try.prog.info? 142).map (fun i => (i.zero, i.size, i.bytes)) = some (some (.agg #[.int .i64 0, .int .i64 0, .int .i64 0, .int .i64 0, .int .i64 0, .int .i64 0]), 6, 48) := by kernel_rfl

set_option maxRecDepth 100000 in
set_option maxHeartbeats 2000000 in
theorem pick_order (w : World) (wb n : Nat) (words : List Int) (hw : Blk w wb (wrow words) 43) (hl : words.length = n) (hn : n ≤ 4096) (hu : ∀ x ∈ words, U64 x) :
    Calls Try.prog 90 #[.slice (some ⟨wb, 0, none⟩) n n] w fun e w' => ∃ v, e = .returned v ∧
      w'.ownsRow 0 3 1 v (rowW words).length ((rowW words).map fun s : Nat => Value.int .i64 (s : Int)) ∧ (∀ g, v.ownBlock = some g → w.heap.size ≤ g) ∧ Frm [] w w' := by
  obtain ⟨i0, hi, hz0, hz1, hz2⟩ := info_parts Try.infoTh
  obtain ⟨i1, hi1, hy0, hy1, hy2⟩ := info_parts Try.infoInt
  have HW := Lib.hid hw
  have HL := Lib.hid hl
  have HU := Lib.hid hu
  have hwt := blk_lt hw
  clear hw hl hu
  go_enter Try.func90, Try.ntmps90
  go_wp2
  go_loopw [3, 4, 13] (fun l r i wr => ∃ k : Nat, k ≤ n ∧ i = .int .i64 k ∧ OrdInv w wr words k l r) (fun _ _ i _ => n - (intOf i).toNat)
  case atStart => exact ⟨0, Nat.zero_le _, rfl, ⟨World.ownsRow_nil _ _ _ _, World.ownsRow_nil _ _ _ _, Frm.refl _ _, by simp [Value.ownBlock], by simp [Value.ownBlock], by simp [Value.ownBlock], fun _ => rfl, fun _ => rfl⟩⟩
  case round =>
    obtain ⟨k, hk, rfl, hI⟩ := hrel
    have HI := Lib.hid hI
    clear hI
    by_cases hlt : k < n
    · have hX := Lib.hid (HU.out (words.getD k 0) (by rw [List.getD_eq_getElem?_getD, List.getElem?_eq_getElem (by rw [HL.out]; exact hlt)]; exact List.getElem_mem _))
      have cw : wr.cell? ⟨wb, k, none⟩ = some (.int .u64 (words.getD k 0)) := by
        rw [blk_cell (blk_frm HW.out HI.out.frm (by simp)), wrow_get words k (by rw [HL.out]; exact hlt)]
      have hz := HI.out.frm.size
      have hkl := leftT_le words k
      have hkr := rightT_le words k
      have HS := Lib.hid (split_skip words k)
      have e1 : thAt words k = ⟨k, unpk (words.getD k 0)⟩ := rfl
      have HSk := Lib.hid (fun (w1 : World) q hs => OrdInv.skip (w1 := w1) HI.out q hs)
      have HLf := Lib.hid (fun (W w' : World) (v' : Value) q hs he own g fp => OrdInv.left (W := W) (w' := w') (v' := v') HI.out q hs he own g fp)
      have HRt := Lib.hid (fun (W w' : World) (v' : Value) q hs he own g fp => OrdInv.right (W := W) (w' := w') (v' := v') HI.out q hs he own g fp)
      have HOl := Lib.hid HI.out.ol
      have HOr := Lib.hid HI.out.or
      rw [e1] at HLf HRt
      clear e1
      generalize words.getD k 0 = x at *
      generalize (leftT words k).length = nl at *
      generalize (rightT words k).length = nr at *
      by_cases hst : (unpk x).st = 1
      · have hs1 : ((unpk x).st != 1) = false := by simp [hst]
        have HST := Lib.hid hst
        clear hst
        by_cases hen : (unpk x).en = 0
        · have hs2 : ((unpk x).en == 0) = true := by simp [hen]
          have HEN := Lib.hid hen
          clear hen
          go_wp2_with (first | (go_at_call 29; refine (word_unpack _ x hX.out.1 hX.out.2).mono ?_; rintro e w1 ⟨rfl, q1⟩) | (at_builtin; refine wpList_append_fp rfl (.tmp 34) (.tmp 38) 140 rfl 142 i0 _ 6 48 Try.underlying140 hi hz0 hz1 hz2 rfl (by decide) _ _ _ rfl (((own_frm HOl.out q1 (by simp)).alloc _).alloc _) ⟨w1.heap.size + 1, 0, none⟩ 1 1 (Th.enc ⟨k, unpk x⟩) rfl rfl ?c1 ?c2 ?c3 ?c4 ?_))
          case c1 => exact new_cells (by simp)
          case c2 => intro u hu; simp [Th.enc] at hu; rcases hu with rfl | rfl | rfl | rfl | rfl | rfl <;> rfl
          case c3 => unfold maxLen; omega
          case c4 => omega
          intro v' w2 own g fp
          have HN := Lib.hid (HLf.out _ w2 v' ((q1.tr (Frm.alloc _ _ _)).tr (Frm.alloc _ _ _)) HST.out HEN.out own g (by simpa using fp))
          clear own g fp
          go_wp2
          go_roundw
          case rel => exact ⟨k + 1, by omega, by go_num, HN.out⟩
          case measure => simp [intOf]; omega
        · have hs2 : ((unpk x).en == 0) = false := by simpa using hen
          have HEN := Lib.hid hen
          clear hen
          go_wp2_with (first | (go_at_call 29; refine (word_unpack _ x hX.out.1 hX.out.2).mono ?_; rintro e w1 ⟨rfl, q1⟩) | (at_builtin; refine wpList_append_fp rfl (.tmp 20) (.tmp 24) 140 rfl 142 i0 _ 6 48 Try.underlying140 hi hz0 hz1 hz2 rfl (by decide) _ _ _ rfl (((own_frm HOr.out q1 (by simp)).alloc _).alloc _) ⟨w1.heap.size + 1, 0, none⟩ 1 1 (Th.enc ⟨k, unpk x⟩) rfl rfl ?c1 ?c2 ?c3 ?c4 ?_))
          case c1 => exact new_cells (by simp)
          case c2 => intro u hu; simp [Th.enc] at hu; rcases hu with rfl | rfl | rfl | rfl | rfl | rfl <;> rfl
          case c3 => unfold maxLen; omega
          case c4 => omega
          intro v' w2 own g fp
          have HN := Lib.hid (HRt.out _ w2 v' ((q1.tr (Frm.alloc _ _ _)).tr (Frm.alloc _ _ _)) HST.out HEN.out own g (by simpa using fp))
          clear own g fp
          go_wp2
          go_roundw
          case rel => exact ⟨k + 1, by omega, by go_num, HN.out⟩
          case measure => simp [intOf]; omega
      · have hs1 : ((unpk x).st != 1) = true := by simpa using hst
        have HST := Lib.hid hst
        clear hst
        go_wp2_with (go_at_call 29; refine (word_unpack _ x hX.out.1 hX.out.2).mono ?_; rintro e w1 ⟨rfl, q1⟩)
        go_roundw
        case rel => exact ⟨k + 1, by omega, by go_num, HSk.out _ (q1.tr (Frm.alloc _ _ _)) HST.out⟩
        case measure => simp [intOf]; omega
    · obtain rfl : k = n := by omega
      go_wp2_with fail
      refine (sort_left _ _ _ HI.out.ol (Nat.lt_of_le_of_lt (leftT_le words k) (by omega))).mono ?_
      rintro e w1 ⟨rfl, L', pL, sL, oL, qL⟩
      have oR1 := Lib.hid (own_frm HI.out.or qL (fun b hb hm => HI.out.ne b (by simpa using hm) hb))
      have q1 : Frm [] w w1 := by
        refine HI.out.frm.trans qL (fun _ _ h => h) (fun b hb _ hm => ?_)
        have := HI.out.nl b (by simpa using hm)
        omega
      have HPL := Lib.hid pL
      have HSL := Lib.hid sL
      have HOL := Lib.hid oL
      have HQ1 := Lib.hid q1
      clear pL sL oL qL q1
      go_wp2_with fail
      refine (sort_right _ _ _ oR1.out (Nat.lt_of_le_of_lt (rightT_le words k) (by omega))).mono ?_
      rintro e w2 ⟨rfl, R', pR, sR, oR, qR⟩
      have oL2 := Lib.hid (own_frm HOL.out qR (fun b hb hm => HI.out.ne b hb (by simpa using hm)))
      have q2 : Frm [] w w2 := by
        refine HQ1.out.trans qR (fun _ _ h => h) (fun b hb _ hm => ?_)
        have := HI.out.nr b (by simpa using hm)
        omega
      have HO := Lib.hid (order_unique words k L' R' HPL.out pR (HSL.out.imp (fun h => by omega)) sR)
      have hLen : L'.length + R'.length ≤ k := by
        have h1 := HPL.out.length_eq
        have h2 := pR.length_eq
        have h3 := (sortT_perm (things words k)).length_eq
        have h4 := things_le words k
        have h5 := congrArg List.length HO.out
        rw [List.length_append] at h5
        omega
      have HNI := Lib.hid (fun h : R' = [] => HI.out.nil (List.perm_nil.1 (h ▸ pR).symm |> fun e => e))
      have HLI := Lib.hid (fun h : L' = [] => HI.out.nill (List.perm_nil.1 (h ▸ HPL.out).symm |> fun e => e))
      have HOR := Lib.hid oR
      have HQ2 := Lib.hid q2
      have HNE := Lib.hid HI.out.ne
      have HNL := Lib.hid HI.out.nl
      have HRW := Lib.hid (show rowW words = (L' ++ R').map Th.slot by rw [HO.out]; unfold rowW; rw [HL.out])
      clear pR sR oR qR q2 HPL HSL HOL HQ1 oR1 HI HO
      by_cases hE : L' = [] ∧ R' = []
      · obtain ⟨hE1, hE2⟩ := hE
        obtain rfl := HLI.out hE1
        obtain rfl := HNI.out hE2
        subst hE1 hE2
        go_wp2_with (at_builtin; refine wpList_append_own_none rfl (.tmp 45) (.tmp 46) 140 rfl 0 142 i0 6 Try.underlying140 hi _ _ _ rfl oL2.out rfl ?_)
        go_rounds 1
        go_ret
        refine ⟨_, rfl, ?_, by simp [Value.ownBlock], HQ2.out⟩
        rw [HRW.out]
        exact World.ownsRow_nil _ _ _ _
      · by_cases hR : R' = []
        · obtain ⟨g, cap, rfl⟩ := Go.Joins.ownsRow_form oL2.out (List.length_pos_iff.2 (fun h => hE ⟨h, hR⟩))
          obtain rfl := HNI.out hR
          subst hR
          have HS0 : Hid (OutInv w w2 (L' ++ []) g cap L'.length 0 (.slice none 0 0)) := ⟨World.ownsRow_nil _ _ _ _, by simpa using oL2.out, HQ2.out, by simp [Value.ownBlock], by simp [Value.ownBlock]⟩
          have HN0 : Hid (L'.length = (L' ++ []).length) := by unfold Hid; simp
          clear HNI HLI oL2 HOR HNE HNL
          generalize L' ++ [] = S at *
          generalize L'.length = N at *
          clear hE
          go_wp2_with (at_builtin; refine wpList_append_own_none rfl (.tmp 45) (.tmp 46) 140 rfl 0 142 i0 6 Try.underlying140 hi _ _ _ rfl HS0.out.os rfl ?_)
          go_loopw [8, 49] (fun o i wq => ∃ j : Nat, j ≤ N ∧ i = .int .i64 j ∧ OutInv w wq S g cap N j o) (fun _ i _ => N - (intOf i).toNat)
          case atStart => exact ⟨0, Nat.zero_le _, rfl, HS0.out⟩
          case round =>
            obtain ⟨j, hj, rfl, hI⟩ := hrel
            have HI := Lib.hid hI
            clear hI
            by_cases hlt2 : j < N
            · have hjS : j < S.length := by rw [← HN0.out]; exact hlt2
              have cg : ∀ c, c < 6 → wr.cell? ⟨g, j * 6 + c, none⟩ = some ((S[j]!).enc[c]!) := by
                intro c hc
                rw [HI.out.os.cellAt _ (by omega), rowT_get S _ (by omega)]
                have e1 : (j * 6 + c) / 6 = j := by omega
                have e2 : (j * 6 + c) % 6 = c := by omega
                rw [e1, e2]
              have c0 := cg 0 (by omega)
              have c1 := cg 1 (by omega)
              have c2 := cg 2 (by omega)
              have c3 := cg 3 (by omega)
              have c4 := cg 4 (by omega)
              have c5 := cg 5 (by omega)
              clear cg
              have HNx := Lib.hid (fun (W w' : World) (o' : Value) q own gr fp => OutInv.next (W := W) (w' := w') (o' := o') HI.out q hjS own gr fp)
              have HOO := Lib.hid HI.out.oo
              clear hjS
              have hgs := (HI.out.os.lt g rfl).2
              generalize S[j]! = t at *
              obtain ⟨sl, ⟨st, en, gen, lo, hi'⟩⟩ := t
              simp only [Th.enc] at c0 c1 c2 c3 c4 c5
              simp at c0 c1 c2 c3 c4 c5
              go_wp2_with (at_builtin; refine wpList_append_fp rfl (.tmp 53) (.tmp 56) 31 rfl 3 i1 _ 1 8 Try.underlying31 hi1 hy0 hy1 hy2 rfl (by decide) _ _ _ rfl ((HOO.out.alloc _).alloc _) ⟨wr.heap.size + 1, 0, none⟩ 1 1 [.int .i64 sl] rfl rfl ?d1 ?d2 ?d3 ?d4 ?_)
              case d2 => rfl
              case d3 => unfold maxLen; omega
              case d4 => omega
              intro v' w5 own gr fp
              have HN := Lib.hid (HNx.out _ w5 v' ((Frm.alloc _ _ _).tr (Frm.alloc _ _ _)) own gr (by simpa using fp))
              clear own gr fp
              go_wp2
              go_roundw
              case rel => exact ⟨j + 1, by omega, by go_num, HN.out⟩
              case measure => simp [intOf]; omega
            · obtain rfl : j = N := by omega
              go_wp2
              go_ret
              refine ⟨_, rfl, ?_, HI.out.no, HI.out.frm⟩
              rw [HRW.out]
              have := HI.out.oo
              have hN := HN0.out
              rw [List.take_of_length_le (by simp; omega)] at this
              simpa [hN, Function.comp_def] using this
        · obtain ⟨b2, cap2, rfl⟩ := Go.Joins.ownsRow_form HOR.out (List.length_pos_iff.2 hR)
          have hr6 := Lib.hid (rowT_len R')
          have hrc := Lib.hid (HOR.out.cells (g := b2) rfl)
          have hr1 := Lib.hid (show ∀ u ∈ rowT R', u.oneCell' = true by intro u hu; obtain ⟨x, _, hx⟩ := List.mem_flatMap.1 hu; simp [Th.enc] at hx; rcases hx with rfl | rfl | rfl | rfl | rfl | rfl <;> rfl)
          have hRp := List.length_pos_iff.2 hR
          have HFR := Lib.hid (fun (w3 : World) gr => grown_frm (w' := w3) HQ2.out (Frm.refl _ _) gr HNL.out)
          have HAP := Lib.hid (rowT_append L' R')
          have HLN := Lib.hid (show (L' ++ R').length = L'.length + R'.length from List.length_append)
          clear HNI HLI HNE HNL hE hR
          go_wp2_with (at_builtin; refine wpList_append_fp rfl (.tmp 45) (.tmp 46) 140 rfl 142 i0 _ 6 48 Try.underlying140 hi hz0 hz1 hz2 rfl (by decide) _ _ _ rfl oL2.out ⟨b2, 0, none⟩ _ cap2 (rowT R') rfl hr6.out hrc.out hr1.out ?e1 ?e2 ?_)
          case e1 => unfold maxLen; omega
          case e2 => omega
          intro v' w3 own gr fp
          obtain ⟨g, cap, rfl⟩ := Go.Joins.ownsRow_form own (by omega)
          have HS0 : Hid (OutInv w w3 (L' ++ R') g cap (L'.length + R'.length) 0 (.slice none 0 0)) := ⟨World.ownsRow_nil _ _ _ _, by rw [HAP.out]; exact own, HFR.out w3 gr, by simp [Value.ownBlock], by simp [Value.ownBlock]⟩
          have HN0 : Hid (L'.length + R'.length = (L' ++ R').length) := HLN.out.symm
          clear own gr fp HFR HAP HLN hr6 hrc hr1 oL2 HOR
          generalize L' ++ R' = S at *
          generalize L'.length + R'.length = N at *
          go_wp2_with fail
          go_loopw [8, 49] (fun o i wq => ∃ j : Nat, j ≤ N ∧ i = .int .i64 j ∧ OutInv w wq S g cap N j o) (fun _ i _ => N - (intOf i).toNat)
          case atStart => exact ⟨0, Nat.zero_le _, rfl, HS0.out⟩
          case round =>
            obtain ⟨j, hj, rfl, hI⟩ := hrel
            have HI := Lib.hid hI
            clear hI
            by_cases hlt2 : j < N
            · have hjS : j < S.length := by rw [← HN0.out]; exact hlt2
              have cg : ∀ c, c < 6 → wr.cell? ⟨g, j * 6 + c, none⟩ = some ((S[j]!).enc[c]!) := by
                intro c hc
                rw [HI.out.os.cellAt _ (by omega), rowT_get S _ (by omega)]
                have e1 : (j * 6 + c) / 6 = j := by omega
                have e2 : (j * 6 + c) % 6 = c := by omega
                rw [e1, e2]
              have c0 := cg 0 (by omega)
              have c1 := cg 1 (by omega)
              have c2 := cg 2 (by omega)
              have c3 := cg 3 (by omega)
              have c4 := cg 4 (by omega)
              have c5 := cg 5 (by omega)
              clear cg
              have HNx := Lib.hid (fun (W w' : World) (o' : Value) q own gr fp => OutInv.next (W := W) (w' := w') (o' := o') HI.out q hjS own gr fp)
              have HOO := Lib.hid HI.out.oo
              clear hjS
              have hgs := (HI.out.os.lt g rfl).2
              generalize S[j]! = t at *
              obtain ⟨sl, ⟨st, en, gen, lo, hi'⟩⟩ := t
              simp only [Th.enc] at c0 c1 c2 c3 c4 c5
              simp at c0 c1 c2 c3 c4 c5
              go_wp2_with (at_builtin; refine wpList_append_fp rfl (.tmp 53) (.tmp 56) 31 rfl 3 i1 _ 1 8 Try.underlying31 hi1 hy0 hy1 hy2 rfl (by decide) _ _ _ rfl ((HOO.out.alloc _).alloc _) ⟨wr.heap.size + 1, 0, none⟩ 1 1 [.int .i64 sl] rfl rfl ?f1 ?f2 ?f3 ?f4 ?_)
              case f2 => rfl
              case f3 => unfold maxLen; omega
              case f4 => omega
              intro v' w5 own gr fp
              have HN := Lib.hid (HNx.out _ w5 v' ((Frm.alloc _ _ _).tr (Frm.alloc _ _ _)) own gr (by simpa using fp))
              clear own gr fp
              go_wp2
              go_roundw
              case rel => exact ⟨j + 1, by omega, by go_num, HN.out⟩
              case measure => simp [intOf]; omega
            · obtain rfl : j = N := by omega
              go_wp2
              go_ret
              refine ⟨_, rfl, ?_, HI.out.no, HI.out.frm⟩
              rw [HRW.out]
              have := HI.out.oo
              have hN := HN0.out
              rw [List.take_of_length_le (by simp; omega)] at this
              simpa [hN, Function.comp_def] using this

end Go.Proofs.Ytkcimjcmlibgpaa
