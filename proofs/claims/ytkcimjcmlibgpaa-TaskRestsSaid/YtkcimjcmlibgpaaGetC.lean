/-
  Package get: a step as a function; a new one; what it tells. Conditions: the cells fit the layout; the thread is there; the log is short.
-/
import Derived.Test.YtkcimjcmlibgpaaGetB
namespace Go.Proofs.Ytkcimjcmlibgpaa
open Go.RowKit

/-- A step of a Get. -/
def GetS.step (n : Nat) (g : GetS) (m : MemS) : GetS × MemS :=
  if g.phase ≠ 0 then (g, m)
  else match g.take with
    | none => (if (g.snap.step n m).1.phase = 1 then ({ g with snap := (g.snap.step n m).1 } : GetS).chosen else { g with snap := (g.snap.step n m).1 }, (g.snap.step n m).2)
    | some t => (if (t.step n m).1.phase = 1 then { g with take := some (t.step n m).1, value := (t.step n m).1.value, phase := 1 }
        else if (t.step n m).1.phase = 2 then { g with tries := g.tries + 1, take := none, snap := snap0 g.cf g.who n g.start }
        else { g with take := some (t.step n m).1 }, (t.step n m).2)

/-- What holds of a Get among its cells. -/
structure GetS.Ok (g : GetS) (n : Nat) (m : MemS) : Prop where
  fits : Fits g.cf n m
  who : g.who < g.cf.t
  en : g.en = 0 ∨ g.en = 1
  ph : g.phase = 0 ∨ g.phase = 1 ∨ g.phase = 2
  tries : g.tries ≤ m.log.length
  tk : ∀ t, g.take = some t → t.cf = g.cf ∧ t.who = g.who ∧ t.slot < n ∧ t.Ok ∧ (g.phase = 0 → t.phase = 0)
  sn : g.take = none → g.phase = 0 → g.snap.cf = g.cf ∧ g.snap.who = g.who ∧ g.snap.start < n ∧ g.snap.k < n ∧ g.snap.words.length = n ∧ g.snap.phase = 0 ∧ g.snap.pass ≤ m.log.length ∧ ∀ x ∈ g.snap.words, U64 x

theorem fits_of {c : Cf} {n : Nat} {m m' : MemS} (h : Fits c n m) (hl : m'.cells.length = m.cells.length) : Fits c n m' := ⟨h.hn, h.t0, h.t1, h.s0, h.s1, by rw [hl, h.len]⟩

theorem GetS.Ok.later {g : GetS} {n : Nat} {m m' : MemS} (h : g.Ok n m) (hl : m'.cells.length = m.cells.length) (hg : m.log.length ≤ m'.log.length) : g.Ok n m' :=
  ⟨fits_of h.fits hl, h.who, h.en, h.ph, Nat.le_trans h.tries hg, h.tk, fun a b => by
    obtain ⟨h1, h2, h3, h4, h5, h6, h7, h8⟩ := h.sn a b
    exact ⟨h1, h2, h3, h4, h5, h6, Nat.le_trans h7 hg, h8⟩⟩

theorem startOf_lt (start : Int) {n : Nat} (h : 1 ≤ n) : startOf start n < n := Nat.mod_lt _ (by omega)

theorem get0_ok (cf : Cf) (who n : Nat) (en start : Int) (m : MemS) (hf : Fits cf n m) (hw : who < cf.t) (he : en = 0 ∨ en = 1) : (get0 cf who n en start).Ok n m :=
  ⟨hf, hw, he, .inl rfl, Nat.zero_le _, fun t h => by simp [get0] at h, fun _ _ => ⟨rfl, rfl, startOf_lt start hf.pos, hf.pos, by simp [get0, snap0], rfl, Nat.zero_le _, by
    intro x hx
    simp only [get0, snap0, List.mem_replicate] at hx
    rw [hx.2]; exact ⟨by decide, by decide⟩⟩⟩

theorem ld_cells (m : MemS) (who k : Nat) : (m.ld who k).cells = m.cells := by
  unfold MemS.ld MemS.put MemS.at
  simp only
  rcases Nat.lt_or_ge k m.cells.length with h | h
  · rw [List.getD_eq_getElem?_getD, List.getElem?_eq_getElem h]; simp
  · exact List.set_eq_of_length_le h
theorem put_cells_len (m : MemS) (who op : Int) (k : Nat) (x : Int) (ok : Bool) : (m.put who op k x ok).cells.length = m.cells.length := by simp [MemS.put]

/-- A step under way notes one thing. -/
theorem take_step_mem (n : Nat) (t : TakeS) (m : MemS) (h : t.phase = 0) : (t.step n m).2.cells.length = m.cells.length ∧ (t.step n m).2.log.length = m.log.length + 1 := by
  unfold TakeS.step
  rw [if_neg (by omega)]
  repeat' split
  all_goals simp [MemS.put, MemS.ld]
theorem snap_step_mem (n : Nat) (s : SnapS) (m : MemS) (h : s.phase = 0) : (s.step n m).2.cells.length = m.cells.length ∧ (s.step n m).2.log.length = m.log.length + 1 := by
  unfold SnapS.step
  rw [if_neg (by omega)]
  simp [MemS.put, MemS.ld]

theorem take_step_keep (n : Nat) (t : TakeS) (m : MemS) (h : t.phase = 0) (ho : t.Ok) : (t.step n m).1.cf = t.cf ∧ (t.step n m).1.who = t.who ∧ (t.step n m).1.slot = t.slot ∧ (t.step n m).1.Ok := by
  obtain ⟨cf, who, slot, word, steps, lost, value, phase⟩ := t
  obtain ⟨o1, o2, o3⟩ := ho
  simp only at h o1 o2 o3
  subst h
  have o4 := o2 rfl
  unfold TakeS.step
  rw [if_neg (by simp)]
  repeat' split
  all_goals refine ⟨rfl, rfl, rfl, ⟨by simp, ?_, o3⟩⟩
  all_goals simp_all <;> omega

theorem ite01 (b : Bool) : (if b = true then (1 : Int) else 0) = 0 ∨ (if b = true then (1 : Int) else 0) = 1 := by cases b <;> simp

theorem snap_step_keep (n : Nat) (s : SnapS) (m : MemS) (h : s.phase = 0) (hk : s.k < n) (hw : s.words.length = n) (hu : ∀ x ∈ s.words, U64 x) (hm : ∀ k, U64 (m.at k)) :
    (s.step n m).1.cf = s.cf ∧ (s.step n m).1.who = s.who ∧ (s.step n m).1.start = s.start ∧ (s.step n m).1.k < n ∧ (s.step n m).1.words.length = n ∧ ((s.step n m).1.phase = 0 ∨ (s.step n m).1.phase = 1) ∧ (s.step n m).1.pass ≤ s.pass + 1 ∧ ∀ x ∈ (s.step n m).1.words, U64 x := by
  unfold SnapS.step
  rw [if_neg (by omega)]
  have hu' : ∀ sl, ∀ x ∈ s.words.set sl (m.at sl), U64 x := by
    intro sl x hx
    rcases List.mem_or_eq_of_mem_set hx with h | h
    · exact hu x h
    · rw [h]; exact hm sl
  unfold SnapS.fin
  split
  · exact ⟨rfl, rfl, rfl, by assumption, by simp [hw], .inl h, by simp, hu' _⟩
  · refine ⟨rfl, rfl, rfl, by simp only; omega, by simp [hw], ?_, by simp, hu' _⟩
    exact ite01 _

theorem get_step_mem (n : Nat) (g : GetS) (m : MemS) (h : g.phase = 0) (ho : g.Ok n m) : (g.step n m).2.cells.length = m.cells.length ∧ (g.step n m).2.log.length = m.log.length + 1 := by
  unfold GetS.step
  rw [if_neg (by omega)]
  cases ht : g.take with
  | none => exact snap_step_mem n g.snap m (ho.sn ht h).2.2.2.2.2.1
  | some t => exact take_step_mem n t m ((ho.tk t ht).2.2.2.2 h)

theorem get_step_ok (n : Nat) (g : GetS) (m : MemS) (ho : g.Ok n m) (hm : ∀ k, U64 (m.at k)) : (g.step n m).1.Ok n (g.step n m).2 := by
  by_cases h : g.phase = 0
  · obtain ⟨ml, mg⟩ := get_step_mem n g m h ho
    have hf := fits_of ho.fits ml
    have hle := ho.fits.le
    obtain ⟨cf, who, en, start, snap, take, tries, value, phase⟩ := g
    obtain ⟨o1, o2, o3, o4, o5, o6, o7⟩ := ho
    simp only at h o1 o2 o3 o4 o5 o6 o7 hf
    subst h
    cases take with
    | none =>
      obtain ⟨s1, s2, s3, s4, s5, s6, s7, s8⟩ := o7 rfl rfl
      obtain ⟨k1, k2, k3, k4, k5, k6, k7, k8⟩ := snap_step_keep n snap m s6 s4 s5 s8 hm
      by_cases hd : (snap.step n m).1.phase = 1
      · have e : (GetS.step n ⟨cf, who, en, start, snap, none, tries, value, 0⟩ m) = ((⟨cf, who, en, start, (snap.step n m).1, none, tries, value, 0⟩ : GetS).chosen, (snap.step n m).2) := by
          simp [GetS.step, hd]
        rw [e] at ml mg hf ⊢
        simp only at ml mg hf ⊢
        unfold GetS.chosen
        simp only
        by_cases hr : atR (rowW (snap.step n m).1.words) en < 0
        · rw [if_pos hr]
          exact ⟨hf, o2, o3, by simp, by simp only; omega, fun t ht => by simp at ht, fun _ hp => by simp at hp⟩
        · rw [if_neg hr]
          rcases atR_mem (rowW (snap.step n m).1.words) en with ⟨h1, _⟩ | ⟨z, hz, hzm⟩
          · omega
          · have hzn := rowW_lt _ z hzm
            rw [k5] at hzn
            refine ⟨hf, o2, o3, by simp, by simp only; omega, fun t ht => ?_, fun hp => by simp at hp⟩
            simp only [Option.some.injEq] at ht
            subst ht
            refine ⟨rfl, rfl, ?_, ⟨.inl rfl, fun _ => Nat.zero_le _, ?_⟩, fun _ => rfl⟩
            · simp only [take0, hz]; omega
            · simp only [take0]
              rw [List.getD_eq_getElem?_getD, hz]
              rw [List.getElem?_eq_getElem (by rw [k5]; omega)]
              exact k8 _ (List.getElem_mem _)
      · have e : (GetS.step n ⟨cf, who, en, start, snap, none, tries, value, 0⟩ m) = (⟨cf, who, en, start, (snap.step n m).1, none, tries, value, 0⟩, (snap.step n m).2) := by
          simp [GetS.step, hd]
        rw [e] at ml mg hf ⊢
        simp only at ml mg hf ⊢
        refine ⟨hf, o2, o3, by simp, by simp only; omega, fun t ht => by simp at ht, fun _ _ => ?_⟩
        exact ⟨k1.trans s1, k2.trans s2, by rw [k3]; exact s3, k4, k5, k6.resolve_right hd, by simp only; omega, k8⟩
    | some t =>
      obtain ⟨t1, t2, t3, t4, t5⟩ := o6 t rfl
      obtain ⟨k1, k2, k3, k4⟩ := take_step_keep n t m (t5 rfl) t4
      by_cases h1 : (t.step n m).1.phase = 1
      · have e : (GetS.step n ⟨cf, who, en, start, snap, some t, tries, value, 0⟩ m) = (⟨cf, who, en, start, snap, some (t.step n m).1, tries, (t.step n m).1.value, 1⟩, (t.step n m).2) := by simp [GetS.step, h1]
        rw [e] at ml mg hf ⊢
        simp only at ml mg hf ⊢
        refine ⟨hf, o2, o3, by simp, by simp only; omega, fun t' ht => ?_, fun hp => by simp at hp⟩
        simp only [Option.some.injEq] at ht
        subst ht
        exact ⟨k1.trans t1, k2.trans t2, by rw [k3]; exact t3, k4, by simp⟩
      · by_cases h2 : (t.step n m).1.phase = 2
        · have e : (GetS.step n ⟨cf, who, en, start, snap, some t, tries, value, 0⟩ m) = (⟨cf, who, en, start, snap0 cf who n start, none, tries + 1, value, 0⟩, (t.step n m).2) := by simp [GetS.step, h2]
          rw [e] at ml mg hf ⊢
          simp only at ml mg hf ⊢
          have h0 := get0_ok cf who n en start (t.step n m).2 hf o2 o3
          exact ⟨hf, o2, o3, by simp, by simp only; omega, fun t' ht => by simp at ht, h0.sn⟩
        · have e : (GetS.step n ⟨cf, who, en, start, snap, some t, tries, value, 0⟩ m) = (⟨cf, who, en, start, snap, some (t.step n m).1, tries, value, 0⟩, (t.step n m).2) := by simp [GetS.step, h1, h2]
          rw [e] at ml mg hf ⊢
          simp only at ml mg hf ⊢
          refine ⟨hf, o2, o3, by simp, by simp only; omega, fun t' ht => ?_, fun hp => by simp at hp⟩
          simp only [Option.some.injEq] at ht
          subst ht
          exact ⟨k1.trans t1, k2.trans t2, by rw [k3]; exact t3, k4, fun _ => (k4.ph.resolve_right (by omega))⟩
  · have e : g.step n m = (g, m) := by unfold GetS.step; rw [if_pos h]
    rw [e]; exact ho

theorem get_step (w : World) (gb p n : Nat) (F G : List Nat) (m : MemS) (g : GetS) (hg : IsGet w gb G g) (hm : IsMem w p F m) (hd : ∀ x ∈ G, x ∉ F) (ho : g.Ok n m) (hlog : m.log.length < 1099511627775) :
    Calls Try.prog 21 #[.pointer (some ⟨gb, 0, none⟩), .pointer (some ⟨p, 0, none⟩)] w fun e w' => e = .returned (.int .i64 (g.step n m).1.phase) ∧
      ∃ F' G', IsGet w' gb G' (g.step n m).1 ∧ IsMem w' p F' (g.step n m).2 ∧ Upd (G ++ F) (G' ++ F') w w' ∧ ∀ x ∈ G', x ∉ F' := by
  have hm' := U64_at hm
  obtain ⟨⟨ct, cs, src, del⟩, who, en, start, snap, take, tries, value, phase⟩ := g
  obtain ⟨o1, o2, o3, o4, o5, o6, o7⟩ := ho
  simp only at o1 o2 o3 o4 o5 o6 o7
  have hle := o1.le
  by_cases hph : phase = 0
  · subst hph
    rcases hg.ex with ⟨sb, wb, e, rfl, hb, hS, d1, d2⟩ | ⟨t, tb, sp, e, rfl, hb, hT, d1⟩
    · simp only at e
      subst e
      obtain ⟨s1, s2, s3, s4, s5, s6, s7, s8⟩ := o7 rfl rfl
      obtain ⟨k1, k2, k3, k4, k5, k6, k7, k8⟩ := snap_step_keep n snap m s6 s4 s5 s8 hm'
      have hF0 := hd gb (by simp)
      have hF1 := hd sb (by simp)
      have hF2 := hd wb (by simp)
      have hs := snap_step w sb wb p n F m snap hS hm hF1 hF2 ⟨by rw [s1]; exact o1, by rw [s1, s2]; exact o2, by omega⟩ ⟨.inl s6, s3, s4, s5, by omega⟩
      rcases k6 with k6 | k6
      · have e : (GetS.step n ⟨⟨ct, cs, src, del⟩, who, en, start, snap, none, tries, value, 0⟩ m) = (⟨⟨ct, cs, src, del⟩, who, en, start, (snap.step n m).1, none, tries, value, 0⟩, (snap.step n m).2) := by simp [GetS.step, k6]
        rw [e]
        rw [k6] at hs
        refine (get_s_go w gb sb wb p F _ _ ct cs who src del en start tries value hF0 d1 d2 hs hb).mono ?_
        rintro r w' ⟨h1, F', h2, h3, h4, h5, h6, h7, h8⟩
        exact ⟨h1, F', [gb, sb, wb], ⟨.inl ⟨sb, wb, rfl, rfl, h2, h3, d1, d2⟩⟩, h4, h5, by simp [h6, h7, h8]⟩
      · rw [k6] at hs
        rcases atR_mem (rowW (snap.step n m).1.words) en with ⟨hr, _⟩ | ⟨z, hz, hzm⟩
        · have e : (GetS.step n ⟨⟨ct, cs, src, del⟩, who, en, start, snap, none, tries, value, 0⟩ m) = (⟨⟨ct, cs, src, del⟩, who, en, start, (snap.step n m).1, none, tries, value, 2⟩, (snap.step n m).2) := by simp [GetS.step, k6, GetS.chosen, hr]
          rw [e]
          refine (get_s_full w gb sb wb p n F _ _ ct cs who src del en start tries value hF0 d1 d2 hs k5 hle k6 k8 o3 hr hb).mono ?_
          rintro r w' ⟨h1, F', h2, h3, h4, h5, h6, h7, h8⟩
          exact ⟨h1, F', [gb, sb, wb], ⟨.inl ⟨sb, wb, rfl, rfl, h2, h3, d1, d2⟩⟩, h4, h5, by simp [h6, h7, h8]⟩
        · have hzn := rowW_lt _ z hzm
          rw [k5] at hzn
          have e : (GetS.step n ⟨⟨ct, cs, src, del⟩, who, en, start, snap, none, tries, value, 0⟩ m) = (⟨⟨ct, cs, src, del⟩, who, en, start, (snap.step n m).1, some (take0 ⟨ct, cs, src, del⟩ who z ((snap.step n m).1.words.getD z 0)), tries, value, 0⟩, (snap.step n m).2) := by
            simp [GetS.step, k6, GetS.chosen, hz, show ¬ ((z : Int) < 0) by omega]
          rw [e]
          refine (get_s_take w gb sb wb p n F _ _ ct cs who src del en start tries value hF0 d1 d2 hs k5 hle k6 k8 o3 z hzn hz hb).mono ?_
          rintro r w' ⟨h1, F', tb, h2, h3, h4, h5, h6, h7, h8⟩
          exact ⟨h1, F', [gb, tb], ⟨.inr ⟨_, tb, _, rfl, rfl, h2, h3, h8⟩⟩, h4, h5, by simp [h6, h7]⟩
    · simp only at e
      subst e
      obtain ⟨t1, t2, t3, t4, t5⟩ := o6 t rfl
      obtain ⟨k1, k2, k3, k4⟩ := take_step_keep n t m (t5 rfl) t4
      have hF0 := hd gb (by simp)
      have hF1 := hd tb (by simp)
      have hs := take_step w tb p n F m t hT hm hF1 ⟨by rw [t1]; exact o1, by rw [t1, t2]; exact o2, t3, by omega⟩ t4
      rcases k4.ph with h0 | h0 | h0
      · have e : (GetS.step n ⟨⟨ct, cs, src, del⟩, who, en, start, snap, some t, tries, value, 0⟩ m) = (⟨⟨ct, cs, src, del⟩, who, en, start, snap, some (t.step n m).1, tries, value, 0⟩, (t.step n m).2) := by simp [GetS.step, h0]
        rw [e]
        rw [h0] at hs
        refine (get_t_go w gb tb p F _ _ ct cs who src del en start sp tries value hF0 d1 hs hb).mono ?_
        rintro r w' ⟨h1, F', h2, h3, h4, h5, h6, h7⟩
        exact ⟨h1, F', [gb, tb], ⟨.inr ⟨_, tb, _, rfl, rfl, h2, h3, d1⟩⟩, h4, h5, by simp [h6, h7]⟩
      · have e : (GetS.step n ⟨⟨ct, cs, src, del⟩, who, en, start, snap, some t, tries, value, 0⟩ m) = (⟨⟨ct, cs, src, del⟩, who, en, start, snap, some (t.step n m).1, tries, (t.step n m).1.value, 1⟩, (t.step n m).2) := by simp [GetS.step, h0]
        rw [e]
        have h0' := h0
        rw [h0] at hs
        refine (get_t_done w gb tb p F _ _ ct cs who src del en start sp tries value hF0 d1 hs h0' hb).mono ?_
        rintro r w' ⟨h1, F', h2, h3, h4, h5, h6, h7⟩
        exact ⟨h1, F', [gb, tb], ⟨.inr ⟨_, tb, _, rfl, rfl, h2, h3, d1⟩⟩, h4, h5, by simp [h6, h7]⟩
      · have e : (GetS.step n ⟨⟨ct, cs, src, del⟩, who, en, start, snap, some t, tries, value, 0⟩ m) = (⟨⟨ct, cs, src, del⟩, who, en, start, snap0 ⟨ct, cs, src, del⟩ who n start, none, tries + 1, value, 0⟩, (t.step n m).2) := by simp [GetS.step, h0]
        rw [e]
        rw [h0] at hs
        refine (get_t_full w gb tb p F _ _ ct cs who src del en start sp tries value hF0 d1 n o1.hn o1.t1 o1.s1 o1.pos (by omega) hs hb).mono ?_
        rintro r w' ⟨h1, F', sb, wb, h2, h3, h4, h5, h6, h7, h8, h9, h10⟩
        exact ⟨h1, F', [gb, sb, wb], ⟨.inl ⟨sb, wb, rfl, rfl, by simpa [GetS.row] using h2, h3, h9, h10⟩⟩, h4, h5, by simp [h6, h7, h8]⟩
  · have hp : phase = 1 ∨ phase = 2 := by omega
    have e : (GetS.step n ⟨⟨ct, cs, src, del⟩, who, en, start, snap, take, tries, value, phase⟩ m) = (⟨⟨ct, cs, src, del⟩, who, en, start, snap, take, tries, value, phase⟩, m) := by unfold GetS.step; rw [if_pos hph]
    rw [e]
    have fin : ∀ sp tp, Blk w gb (GetS.row ⟨⟨ct, cs, src, del⟩, who, en, start, snap, take, tries, value, phase⟩ sp tp) 103 → _ := fun sp tp hb => get_over w gb (.pointer (some ⟨p, 0, none⟩)) sp tp ct cs who src del en start tries value phase hp hb
    have fin' : Calls Try.prog 21 #[.pointer (some ⟨gb, 0, none⟩), .pointer (some ⟨p, 0, none⟩)] w fun e w' => e = .returned (.int .i64 phase) ∧ w = w' := by
      rcases hg.ex with ⟨sb, wb, _, _, hb, _⟩ | ⟨t, tb, sp, _, _, hb, _⟩
      · exact fin _ _ hb
      · exact fin _ _ hb
    refine fin'.mono ?_
    rintro r w' ⟨he, rfl⟩
    exact ⟨he, F, G, hg, hm, Upd.refl _ _, hd⟩

end Go.Proofs.Ytkcimjcmlibgpaa
