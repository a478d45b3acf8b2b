/-
  The state of a call in which the caller's own things are turned: what has become of its blocks. No condition.
-/
import Derived.Test.YtkcimjcmlibgpaaSep
namespace Go.Proofs.Ytkcimjcmlibgpaa
open Go.RowKit

/-- The call began in W0 with the blocks F0; now R lies in these and in new ones; nothing besides is turned. -/
def Sx (W0 : World) (F0 : Nat → Prop) (w : World) (R : HP) : Prop := ∃ F, R.on w F ∧ UpdS F0 F W0 w

theorem UpdS.refl (F : Nat → Prop) (w : World) : UpdS F F w w := ⟨rfl, rfl, rfl, Nat.le_refl _, fun _ _ _ => rfl, fun _ h => .inl h⟩
theorem Sx.start {w : World} {F : Nat → Prop} {P : HP} (h : P.on w F) : Sx w F w P := ⟨F, h, UpdS.refl F w⟩
theorem Sx.cast {W0 w : World} {F0 : Nat → Prop} {R S : HP} (h : Sx W0 F0 w R) (e : R = S) : Sx W0 F0 w S := e ▸ h
theorem Sx.size {W0 w : World} {F0 : Nat → Prop} {R : HP} (h : Sx W0 F0 w R) : W0.heap.size ≤ w.heap.size := by obtain ⟨_, _, h⟩ := h; exact h.size

theorem Sx.step {W0 w w' : World} {F0 A A' : Nat → Prop} {P' R : HP} {B : Nat → Prop} (hu : UpdS F0 (fun x => A x ∨ B x) W0 w) (h2 : R.on w B) (h3 : ∀ x, A x → ¬ B x) (hp : P'.on w' A') (u : UpdS A A' w w') : Sx W0 F0 w' (P' * R) := by
  refine ⟨fun x => A' x ∨ B x, ⟨A', B, hp, R.keep w w' B h2 (fun k hk => u.block k (R.lt w B h2 k hk) (fun ha => h3 k ha hk)), fun x ha hb => ?_, rfl⟩, hu.trans ⟨u.os, u.tape, u.output, u.size, fun k hk hn => u.block k hk (fun ha => hn (.inl ha)), fun k hk => ?_⟩⟩
  · rcases u.grows x ha with h | h
    · exact h3 x h hb
    · have := R.lt w B h2 x hb; omega
  · rcases hk with hk | hk
    · rcases u.grows k hk with h | h
      · exact .inl (.inl h)
      · exact .inr h
    · exact .inl (.inr hk)

theorem Sx.call {W0 w : World} {F0 : Nat → Prop} {f : Nat} {args : Array Value} {P R : HP} {Q : Ending → HP → Prop} (h : Sx W0 F0 w (P * R)) (hc : Tri w f args P Q) :
    Calls Try.prog f args w fun e w' => ∃ P', Q e P' ∧ Sx W0 F0 w' (P' * R) := by
  obtain ⟨F, ⟨A, B, h1, h2, h3, rfl⟩, hu⟩ := h
  refine (hc A h1).mono ?_
  rintro e w' ⟨P', A', hq, hp, u⟩
  exact ⟨P', hq, Sx.step hu h2 h3 hp u⟩
theorem Sx.call1 {W0 w : World} {F0 : Nat → Prop} {f : Nat} {args : Array Value} {P : HP} {Q : Ending → HP → Prop} (h : Sx W0 F0 w P) (hc : Tri w f args P Q) :
    Calls Try.prog f args w fun e w' => ∃ P', Q e P' ∧ Sx W0 F0 w' P' := by
  refine ((h.cast (HP.star_emp P).symm).call hc).mono ?_
  rintro e w' ⟨P', hq, hs⟩
  exact ⟨P', hq, hs.cast (HP.star_emp P')⟩

theorem Sx.ext {W0 w w' : World} {F0 : Nat → Prop} {R : HP} (h : Sx W0 F0 w R) (q : Frm [] w w') : Sx W0 F0 w' R := by
  obtain ⟨F, h1, hu⟩ := h
  exact ⟨F, R.keep w w' F h1 (fun k hk => q.block k (R.lt w F h1 k hk) (by simp)), hu.trans (UpdS.of_frm F q)⟩
theorem Sx.drew {W0 w : World} {F0 : Nat → Prop} {R : HP} (h : Sx W0 F0 w R) : Sx W0 F0 w.drew R := h.ext (Frm.drew _ _)
theorem Sx.alloc {W0 w : World} {F0 : Nat → Prop} {R : HP} (h : Sx W0 F0 w R) (o : Obj) : Sx W0 F0 (w.alloc o) R := h.ext (Frm.alloc _ _ _)
theorem Sx.make {W0 w w' : World} {F0 A : Nat → Prop} {P R : HP} (h : Sx W0 F0 w R) (q : Frm [] w w') (hp : P.on w' A) (ha : ∀ k, A k → w.heap.size ≤ k) : Sx W0 F0 w' (P * R) := by
  obtain ⟨F, h1, hu⟩ := h
  refine ⟨fun x => A x ∨ F x, ⟨A, F, hp, R.keep w w' F h1 (fun k hk => q.block k (R.lt w F h1 k hk) (by simp)), fun x hx hf => ?_, rfl⟩, hu.trans ⟨q.os, q.tape, q.output, q.size, fun k hk _ => q.block k hk (by simp), fun k hk => ?_⟩⟩
  · have := ha x hx; have := R.lt w F h1 x hf; omega
  · rcases hk with hk | hk
    · exact .inr (ha k hk)
    · exact .inl hk
theorem Sx.blk {W0 w : World} {F0 : Nat → Prop} {b : Nat} {c : Array Value} {t : TypeId} {R : HP} (h : Sx W0 F0 w (blkP b c t * R)) : Blk w b c t := by
  obtain ⟨F, ⟨A, B, ⟨h1, _⟩, _⟩, _⟩ := h; exact h1
theorem Sx.blk1 {W0 w : World} {F0 : Nat → Prop} {b : Nat} {c : Array Value} {t : TypeId} (h : Sx W0 F0 w (blkP b c t)) : Blk w b c t := by
  obtain ⟨F, ⟨h1, _⟩, _⟩ := h; exact h1
theorem Sx.set {W0 w : World} {F0 : Nat → Prop} {b : Nat} {c : Array Value} {t : TypeId} {R : HP} (h : Sx W0 F0 w (blkP b c t * R)) (o : Nat) (v : Value) : Sx W0 F0 (w.setCell ⟨b, o, none⟩ v) (blkP b (c.setIfInBounds o v) t * R) := by
  obtain ⟨F, ⟨A, B, ⟨h1, rfl⟩, h2, h3, rfl⟩, hu⟩ := h
  refine Sx.step (A := fun x => x = b) (A' := fun x => x = b) hu h2 h3 ⟨blk_set h1 o v, rfl⟩ ?_
  have hf := Frm.setCell (F := [b]) w (a := ⟨b, o, none⟩) v (by simp)
  exact ⟨hf.os, hf.tape, hf.output, hf.size, fun k hk hn => hf.block k hk (by simpa using hn), fun k hk => .inl hk⟩
theorem Sx.set1 {W0 w : World} {F0 : Nat → Prop} {b : Nat} {c : Array Value} {t : TypeId} (h : Sx W0 F0 w (blkP b c t)) (o : Nat) (v : Value) : Sx W0 F0 (w.setCell ⟨b, o, none⟩ v) (blkP b (c.setIfInBounds o v) t) :=
  ((h.cast (HP.star_emp _).symm).set o v).cast (HP.star_emp _)
theorem Sx.u64 {W0 w : World} {F0 : Nat → Prop} {p : Nat} {m : MemS} {R : HP} (h : Sx W0 F0 w (memP p m * R)) : ∀ k, U64 (m.at k) := by
  obtain ⟨F, ⟨A, B, ⟨G, h1, _⟩, _⟩, _⟩ := h; exact U64_at h1

theorem Sx.drop {W0 w : World} {F0 : Nat → Prop} {P R : HP} (h : Sx W0 F0 w (P * R)) : Sx W0 F0 w R := by
  obtain ⟨F, ⟨A, B, h1, h2, h3, rfl⟩, hu⟩ := h
  exact ⟨B, h2, hu.os, hu.tape, hu.output, hu.size, hu.block, fun k hk => hu.grows k (.inr hk)⟩
theorem Sx.al {W0 w : World} {F0 : Nat → Prop} {R : HP} (h : Sx W0 F0 w R) (c : Array Value) (t : TypeId) : Sx W0 F0 (w.alloc (.cells c t)) (blkP w.heap.size c t * R) :=
  h.make (A := fun x => x = w.heap.size) (Frm.alloc _ _ _) ⟨blk_new w c t, rfl⟩ (by rintro k rfl; exact Nat.le_refl _)

/-- What a method leaves, told as its contract. -/
theorem Tri.walk {w : World} {f : Nat} {args : Array Value} {P : HP} {Q : Ending → HP → Prop} (h : ∀ F, Sx w F w P → Calls Try.prog f args w fun e w' => ∃ P', Q e P' ∧ Sx w F w' P') : Tri w f args P Q := by
  intro F hF
  refine (h F (Sx.start hF)).mono ?_
  rintro e w' ⟨P', hq, F', hp, hu⟩
  exact ⟨P', F', hq, hp, hu⟩

theorem load_tri (w : World) (p : Nat) (m : MemS) (who : Int) (k : Nat) (hk : k < m.cells.length) (hlog : m.log.length < 1099511627776) :
    Tri w 63 #[.pointer (some ⟨p, 0, none⟩), .int .i64 who, .int .i64 k] (memP p m)
      fun e R => e = .returned (.int .u64 (m.at k)) ∧ R = memP p (m.put who 0 k (m.at k) true) := by
  rintro F ⟨M, hm, rfl⟩
  refine (mem_load w p M m who k hm hk hlog).mono ?_
  rintro e w' ⟨he, F', h1, h2⟩
  exact ⟨_, _, ⟨he, rfl⟩, ⟨F', h1, rfl⟩, h2.toS⟩
theorem swapYes_tri (w : World) (p : Nat) (m : MemS) (who x : Int) (k : Nat) (hk : k < m.cells.length) (hlog : m.log.length < 1099511627776) (hx : U64 x) :
    Tri w 65 #[.pointer (some ⟨p, 0, none⟩), .int .i64 who, .int .i64 k, .int .u64 (m.at k), .int .u64 x] (memP p m)
      fun e R => e = .returned (.bool true) ∧ R = memP p (m.put who 2 k x true) := by
  rintro F ⟨M, hm, rfl⟩
  refine (mem_swapYes w p M m who x k hm hk hlog hx).mono ?_
  rintro e w' ⟨he, F', h1, h2⟩
  exact ⟨_, _, ⟨he, rfl⟩, ⟨F', h1, rfl⟩, h2.toS⟩
theorem swapNo_tri (w : World) (p : Nat) (m : MemS) (who old x : Int) (k : Nat) (hk : k < m.cells.length) (hlog : m.log.length < 1099511627776) (hd : m.at k ≠ old) :
    Tri w 65 #[.pointer (some ⟨p, 0, none⟩), .int .i64 who, .int .i64 k, .int .u64 old, .int .u64 x] (memP p m)
      fun e R => e = .returned (.bool false) ∧ R = memP p (m.put who 2 k (m.at k) false) := by
  rintro F ⟨M, hm, rfl⟩
  refine (mem_swapNo w p M m who old x k hm hk hlog hd).mono ?_
  rintro e w' ⟨he, F', h1, h2⟩
  exact ⟨_, _, ⟨he, rfl⟩, ⟨F', h1, rfl⟩, h2.toS⟩
theorem add_tri (w : World) (p : Nat) (m : MemS) (who x : Int) (k : Nat) (hk : k < m.cells.length) (hlog : m.log.length < 1099511627776) :
    Tri w 84 #[.pointer (some ⟨p, 0, none⟩), .int .i64 who, .int .i64 k, .int .u64 x] (memP p m)
      fun e R => e = .returned (.int .u64 (m.at k)) ∧ R = memP p (m.put who 3 k ((m.at k + x) % 18446744073709551616) true) := by
  rintro F ⟨M, hm, rfl⟩
  refine (mem_add w p M m who x k hm hk hlog).mono ?_
  rintro e w' ⟨he, F', h1, h2⟩
  exact ⟨_, _, ⟨he, rfl⟩, ⟨F', h1, rfl⟩, h2.toS⟩

end Go.Proofs.Ytkcimjcmlibgpaa
